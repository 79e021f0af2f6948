/-
  THE WALK of lexer.value: a value in quotes.
-/
import Derived.Test.YtofemhaepadggaaDoorLexBytes
namespace Go.Proofs.YtofemhaepadggaaDoor
open Go.RowKit

theorem valGo_nil (a : List Nat) : L.valGo a [] = ([], [], 83) := by unfold L.valGo; rfl
theorem valGo_q (a r : List Nat) : L.valGo a (34 :: r) = (a, r, 0) := by unfold L.valGo; rfl
theorem valGo_t (a r : List Nat) : L.valGo a (9 :: r) = ([], [], 82) := by unfold L.valGo; rfl
theorem valGo_e (a r : List Nat) : L.valGo a (92 :: 34 :: r) = L.valGo (a ++ [34]) r := by rw [L.valGo]
theorem valGo_c (a r : List Nat) (c : Nat) (h1 : c ≠ 34) (h2 : c ≠ 9) (h3 : ([92, 34] : List Nat).isPrefixOf (c :: r) = false) : L.valGo a (c :: r) = L.valGo (a ++ [c]) r := by
  rw [L.valGo]
  · exact h1
  · exact h2
  · rintro t rfl rfl
    simp [List.isPrefixOf] at h3

set_option maxHeartbeats 2000000 in
set_option maxRecDepth 100000 in
theorem value_any (s : ByteArray) (w : World) (hs : s.size ≤ 1000000) : Calls Tryd.prog 60 #[.string s] w (PartPost w (L.valS (bs s))) := by
  obtain ⟨i0, hi0, hz0, hz1, hz2⟩ := info_parts info_u8
  by_cases hh : (bs s).head? = some 34
  · obtain ⟨r, hr⟩ : ∃ r, bs s = 34 :: r := by
      cases h : bs s with
      | nil => rw [h] at hh; cases hh
      | cons a r => rw [h] at hh; simp at hh; subst hh; exact ⟨r, rfl⟩
    have hC := fun W => cutp_yes s 34 r hr W
    have hspec : L.valS (bs s) = L.valGo [] r := by rw [hr]; rfl
    have hlen : r.length ≤ 1000000 := by
      have := length_bs s
      rw [hr] at this
      simp at this
      omega
    rw [hspec]
    clear hspec hr hh
    have hC' := Lib.hid hC; clear hC
    have hi0' := Lib.hid hi0; clear hi0
    have hz0' := Lib.hid hz0; clear hz0
    have hz1' := Lib.hid hz1; clear hz1
    have hz2' := Lib.hid hz2; clear hz2
    go_enter Tryd.func60, Tryd.ntmps60
    go_wp2_with fail
    refine (hC'.out _).mono ?_
    rintro e v1 ⟨⟨t, ht, rfl⟩, rfl⟩
    have hts : t.size = r.length := by rw [← ht, length_bs]
    have hle := bs_le t
    rw [ht] at hle
    have hle' := Lib.hid hle; clear hle
    have ht' := Lib.hid ht; clear ht
    have hts2 : t.size ≤ 1000000 := by omega
    have hts' := Lib.hid hts; clear hts hlen
    go_wp2_with fail
    go_loopw [7, 8] (fun s7 s8 wr => ∃ (k : Nat) (acc : List Nat), s8 = .int .i64 k ∧ k ≤ t.size ∧ acc.length ≤ k ∧ Hid (∀ c, c ∈ acc → c ≤ 255) ∧ Hid (L.valGo acc (r.drop k) = L.valGo [] r) ∧ Hid (TextRow wr v1.heap.size s7 acc) ∧ Hid (Below v1.heap.size v1 wr)) (fun _ s8 _ => t.size - (intOf s8).toNat)
    case atStart => exact ⟨0, [], rfl, by omega, by simp, fun c hc => (by cases hc), (by first | exact rfl | exact trivial | simp [Hid]), World.ownsRow_nil _ _ _ _, Below.refl _ _⟩
    case round =>
      obtain ⟨k, acc, rfl, hk, hak, hal, hv, hrow, hb⟩ := hrel
      by_cases hkl : k < t.size
      · have ik : (k : Int) < (t.size : Int) := by omega
        have hkr : k < r.length := by have := hts'.out; omega
        have hgk : r[k]? = some (t[k]'hkl).toNat := by rw [← ht'.out]; exact get_bs t k hkl
        have hgk2 : r[k]'hkr = (t[k]'hkl).toNat := (List.getElem?_eq_some_iff.1 hgk).2
        have hd : r.drop k = (t[k]'hkl).toNat :: r.drop (k + 1) := (List.drop_eq_getElem_cons hkr).trans (by rw [hgk2])
        clear hgk2
        have hv1 := hv.out
        rw [hd] at hv1
        by_cases h34 : (t[k]'hkl).toNat = 34
        · have i34 : ((t[k]'hkl).toNat : Int) = 34 := by omega
          have e34 : (((t[k]'hkl).toNat : Int) == 34) = true := by rw [i34]; rfl
          rw [h34, valGo_q] at hv1
          have hcv := fun n => (show TextRow (wr.drewN n) v1.heap.size u7 acc from own_only hrow.out ((Only.refl (fun _ => False) wr).drewN n) (fun _ _ h => h)).conv
          have hbs : bs (strOfNums (acc.map fun c : Nat => (c : Int))) = acc := bs_nums hal.out
          generalize strOfNums (acc.map fun c : Nat => (c : Int)) = st at *
          have hcv0 : (convert 66 9 u7).run Tryd.prog wr = .ok (.string st) wr := hcv 0
          have hbs' := Lib.hid hbs; clear hbs
          have hv1' := Lib.hid hv1; clear hv1 hv
          have hkn : (k : Int) + 1 ≤ (t.size : Int) := by omega
          clear hal hrow hd hgk h34
          go_wp2_with fail
          go_quiet (fail)
          go_wp2_with fail
          go_ret3
          exact ⟨⟨st, t.extract (k + 1) t.size, by rw [← hv1'.out]; rfl, by rw [← hv1'.out]; exact hbs'.out, by rw [← hv1'.out, bs_extract, ht'.out]⟩, below_drawN hb.out _⟩
        · have i34 : ¬ ((t[k]'hkl).toNat : Int) = 34 := by omega
          have e34 : (((t[k]'hkl).toNat : Int) == 34) = false := beq_eq_false_iff_ne.2 i34
          by_cases h9 : (t[k]'hkl).toNat = 9
          · have i9 : ((t[k]'hkl).toNat : Int) = 9 := by omega
            rw [h9, valGo_t] at hv1
            have hv1' := Lib.hid hv1; clear hv1 hv
            clear hal hrow hd hgk h9 h34
            go_wp2_with fail
            go_ret3
            exact ⟨⟨⟨#[]⟩, ⟨#[]⟩, by rw [← hv1'.out]; rfl, by rw [← hv1'.out]; rfl, by rw [← hv1'.out]; rfl⟩, hb.out⟩
          · have i9 : ¬ ((t[k]'hkl).toNat : Int) = 9 := by omega
            have hP := Tryd.strings_HasPrefix (t.extract k t.size) ⟨#[92, 34]⟩ wr
            have hpx : Lib.hasPrefix (t.extract k t.size).data.toList [92, 34] = ([92, 34] : List Nat).isPrefixOf (r.drop k) := by
              have := prefix_bs (t.extract k t.size) ⟨#[92, 34]⟩
              rw [bs_extract, ht'.out] at this
              exact this
            generalize hhp : Lib.hasPrefix (t.extract k t.size).data.toList [92, 34] = hp at *
            have hwr := hb.out.size
            cases hp with
            | true =>
              have h92 : (t[k]'hkl).toNat = 92 ∧ ∃ r2, r.drop (k + 1) = 34 :: r2 := by
                rw [hd] at hpx
                cases hq : r.drop (k + 1) with
                | nil => rw [hq] at hpx; simp [List.isPrefixOf] at hpx
                | cons a r2 =>
                  rw [hq] at hpx
                  simp [List.isPrefixOf] at hpx
                  exact ⟨hpx.1.symm, r2, by rw [← hpx.2]⟩
              obtain ⟨h92, r2, hr2⟩ := h92
              have hk1r : k + 1 < r.length := by
                rcases Nat.lt_or_ge (k + 1) r.length with h | h
                · exact h
                · rw [List.drop_eq_nil_of_le h] at hr2; cases hr2
              have hk1 : k + 1 < t.size := by have := hts'.out; omega
              have hdd := List.drop_eq_getElem_cons hk1r
              rw [hr2] at hdd
              have h34b : (t[k + 1]'hk1).toNat = 34 := by
                have h1 := get_bs t (k + 1) hk1
                rw [ht'.out, List.getElem?_eq_getElem hk1r] at h1
                rw [← Option.some.inj h1]
                exact (List.cons.inj hdd).1.symm
              have h2r : r2 = r.drop (k + 2) := (List.cons.inj hdd).2
              rw [h92, hr2, valGo_e, h2r] at hv1
              have hv1' := Lib.hid hv1; clear hv1 hv
              have hP' := Lib.hid hP; clear hP
              have c34 : t[k + 1]'hk1 = 34 := UInt8.toNat_inj.1 h34b
              have ik1 : (k : Int) + 1 < (t.size : Int) := by omega
              have hw1 := IntWalk.i64_in ((k : Int) + 1) (by omega)
              have hn1 : ((k : Int) + 1).toNat = k + 1 := by omega
              have h34c : ((t[k + 1]'hk1).toNat : Int) = 34 := by omega
              clear h92 hr2 hdd h2r hpx hd hgk h34 h9 hhp h34b c34
              go_wp2_with fail
              refine hP'.out.mono ?_
              rintro e v2 ⟨rfl, rfl⟩
              go_wp2_with (at_builtin; refine wpList_append_own _ rfl (.tmp 45) (.tmp 49) 66 rfl v1.heap.size 5 i0 (.int .u8 0) 1 1 Tryd.underlying66 hi0'.out hz0'.out hz1'.out hz2'.out rfl (by decide) u7 acc.length (acc.map fun c : Nat => Value.int .u8 c) rfl (own_below hrow.out (Below.alloc (Below.refl _ _) (Nat.le_refl _) _)) ⟨v2.heap.size, 0, none⟩ 1 1 [.int .u8 34] rfl rfl (cell_one_new _ _ _) (by intro u hu; simp at hu; subst hu; rfl) (by simp only [maxLen]; omega) (by omega) (by simp; omega) ?_; intro v' w1' hown' hgrow _)
              go_roundw
              case rel =>
                refine ⟨k + 2, acc ++ [34], by go_num, by omega, by simp; omega, ?_, hv1', ?_, ?_⟩
                · intro c hc
                  rcases List.mem_append.1 hc with hc | hc
                  · exact hal.out c hc
                  · simp at hc; subst hc; decide
                · show TextRow w1' _ _ _
                  unfold TextRow
                  rw [List.map_append, List.length_append]
                  exact hown'
                · exact (hb.out.alloc hwr _).grown hgrow (by simp; omega) (fun k e => by have := hrow.out.lt _ e; omega)
              case measure => simp [intOf]; omega
            | false =>
              rw [valGo_c _ _ _ h34 h9 (by rw [← hd, ← hpx])] at hv1
              have hv1' := Lib.hid hv1; clear hv1 hv
              have hP' := Lib.hid hP; clear hP
              have hc255 : (t[k]'hkl).toNat ≤ 255 := by have := (t[k]'hkl).toNat_lt; omega
              clear hpx hd hgk h34 h9 hhp
              go_wp2_with fail
              refine hP'.out.mono ?_
              rintro e v2 ⟨rfl, rfl⟩
              go_wp2_with (at_builtin; refine wpList_append_own _ rfl (.tmp 45) (.tmp 49) 66 rfl v1.heap.size 5 i0 (.int .u8 0) 1 1 Tryd.underlying66 hi0'.out hz0'.out hz1'.out hz2'.out rfl (by decide) u7 acc.length (acc.map fun c : Nat => Value.int .u8 c) rfl (own_below hrow.out (Below.alloc (Below.refl _ _) (Nat.le_refl _) _)) ⟨v2.heap.size, 0, none⟩ 1 1 [.int .u8 ((t[k]'hkl).toNat : Int)] rfl rfl (cell_one_new _ _ _) (by intro u hu; simp at hu; subst hu; rfl) (by simp only [maxLen]; omega) (by omega) (by simp; omega) ?_; intro v' w1' hown' hgrow _)
              go_roundw
              case rel =>
                refine ⟨k + 1, acc ++ [(t[k]'hkl).toNat], by go_num, by omega, by simp; omega, ?_, hv1', ?_, ?_⟩
                · intro c hc
                  rcases List.mem_append.1 hc with hc | hc
                  · exact hal.out c hc
                  · simp at hc; subst hc; exact hc255
                · show TextRow w1' _ _ _
                  unfold TextRow
                  rw [List.map_append, List.length_append]
                  exact hown'
                · exact (hb.out.alloc hwr _).grown hgrow (by simp; omega) (fun k e => by have := hrow.out.lt _ e; omega)
              case measure => simp [intOf]; omega
      · obtain rfl : k = t.size := by omega
        have hv1 := hv.out
        rw [List.drop_eq_nil_of_le (by have := hts'.out; omega), valGo_nil] at hv1
        have hv1' := Lib.hid hv1; clear hv1 hv hal hrow
        go_wp2_with fail
        go_ret3
        exact ⟨⟨⟨#[]⟩, ⟨#[]⟩, by rw [← hv1'.out]; rfl, by rw [← hv1'.out]; rfl, by rw [← hv1'.out]; rfl⟩, hb.out⟩
  · have hspec : L.valS (bs s) = ([], [], 82) := by
      cases h : bs s with
      | nil => rfl
      | cons a r =>
        rw [h] at hh
        simp at hh
        unfold L.valS
        split
        · rename_i e; simp at e; exact absurd e.1 hh
        · rfl
    rw [hspec]
    have hC' := Lib.hid (fun W => cutp_no s 34 hh W)
    clear hspec hh
    go_enter Tryd.func60, Tryd.ntmps60
    go_wp2_with fail
    refine (hC'.out _).mono ?_
    rintro e v1 ⟨rfl, rfl⟩
    go_wp2_with fail
    go_ret3
    exact ⟨⟨⟨#[]⟩, ⟨#[]⟩, rfl, rfl, rfl⟩, Below.refl _ _⟩

end Go.Proofs.YtofemhaepadggaaDoor
