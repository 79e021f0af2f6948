/-
  THE WALK of coldplugref08.Tokens.
-/
import Derived.Test.YtofemhaepadggaaDoorLexRefTok
namespace Go.Proofs.YtofemhaepadggaaDoor
open Go.RowKit

namespace L
/-- What is left to do at a text that begins with no separator. -/
def tokN (f : Nat) (l : List Nat) (acc : List Tok) : List Tok × Int :=
  if l = [] then (acc, 0) else if (tokS l).2.2 ≠ 0 then ([], (tokS l).2.2) else tokGo f true (tokS l).2.1 (acc ++ [(tokS l).1])
end L
theorem tokGo_N (f : Nat) (b : Bool) (l : List Nat) (acc : List L.Tok) (h : b = false ∨ l.dropWhile L.sepL = [] ∨ (l.dropWhile L.sepL).length ≠ l.length) : L.tokGo (f + 1) b l acc = L.tokN f (l.dropWhile L.sepL) acc := by
  rw [tokGo_succ]
  unfold L.tokN
  split
  · rfl
  · rename_i hn
    rw [if_neg]
    rintro ⟨hb, hl⟩
    rcases h with h | h | h
    · rw [h] at hb; cases hb
    · exact hn h
    · exact h hl
theorem tokGo_form (f : Nat) (l : List Nat) (acc : List L.Tok) (h : l ≠ []) (h2 : l.dropWhile L.sepL = l) : L.tokGo (f + 1) true l acc = ([], 82) := by
  rw [tokGo_succ, h2, if_neg h, if_pos ⟨rfl, rfl⟩]

theorem ne_listT {a b : ByteArray} (h : a ≠ b) : (a.toList == b.toList) = false := by
  rw [beq_eq_false_iff_ne, ByteArray.toList_eq, ByteArray.toList_eq]
  intro e
  apply h
  have := Array.toList_inj.1 e
  cases a; cases b
  simp only at this
  rw [this]
theorem drop_same {a b : ByteArray} (h : bs a = bs b) : a = b := bs_inj h
theorem dropWhile_same {p : Nat → Bool} {l : List Nat} (h : (l.dropWhile p).length = l.length) : l.dropWhile p = l := by
  cases l with
  | nil => rfl
  | cons c l =>
    rw [List.dropWhile_cons] at h ⊢
    split
    · rename_i hp
      rw [if_pos hp] at h
      have := dropWhile_le p l
      simp at h
      omega
    · rfl

set_option maxRecDepth 100000 in
set_option maxHeartbeats 4000000 in
theorem rtokens_any (s : ByteArray) (w : World) : Calls Tryd.prog 25 #[.string s] w (ToksPost w (L.tokensS (bs s))) := by
  obtain ⟨i0, hi0, hz0, hz1, hz2⟩ := info_parts info_tok
  obtain ⟨T, hT⟩ : ∃ T, L.tokensS (bs s) = T := ⟨_, rfl⟩
  rw [hT]
  unfold L.tokensS at hT
  rw [length_bs] at hT
  by_cases hbig : 1024 < s.size
  · rw [if_pos hbig] at hT
    subst hT
    have i1 : (1024 : Int) < (s.size : Int) := by omega
    go_enter Tryd.func25, Tryd.ntmps25
    go_wp2_with fail
    go_ret2
    exact ⟨⟨_, [], rfl, rfl, World.ownsRow_nil _ _ _ _⟩, Below.refl _ _⟩
  · rw [if_neg hbig] at hT
    have i1 : ¬ (1024 : Int) < (s.size : Int) := by omega
    have hT' := Lib.hid hT; clear hT
    have hi0' := Lib.hid hi0; clear hi0
    have hz0' := Lib.hid hz0; clear hz0
    have hz1' := Lib.hid hz1; clear hz1
    have hz2' := Lib.hid hz2; clear hz2
    have hs4 : s.size ≤ 1024 := by omega
    clear hbig
    go_enter Tryd.func25, Tryd.ntmps25
    go_wp2_with fail
    go_loopw [4] (fun s4 wr => ∃ k : Nat, s4 = .int .i64 k ∧ k ≤ s.size ∧ Hid (∀ j c, j < k → (bs s)[j]? = some c → L.plainB c = true) ∧ Hid (wr = w)) (fun s4 _ => s.size - (intOf s4).toNat)
    case atStart => exact ⟨0, rfl, by omega, fun j c hj => by omega, (by first | exact rfl | exact trivial)⟩
    case round =>
      obtain ⟨k, rfl, hk, ha, hw⟩ := hrel
      obtain rfl : wr = w := hw.out
      clear hw
      obtain ⟨wo, hwo⟩ : ∃ y : World, y = wr := ⟨_, rfl⟩
      subst hwo
      by_cases hks : k < s.size
      · have hpk := get_bs s k hks
        have ik : (k : Int) < (s.size : Int) := by omega
        have ik0 : (0 : Int) ≤ (k : Int) := by omega
        have hbad : L.plainB (s[k]'hks).toNat = false → T = ([], 80) := fun hb => by
          rw [← hT'.out, if_pos]
          rw [List.all_eq_false]
          exact ⟨_, List.mem_of_getElem? hpk, by rw [hb]; simp⟩
        have hgood : L.plainB (s[k]'hks).toNat = true → Hid (∀ j c, j < k + 1 → (bs s)[j]? = some c → L.plainB c = true) := fun hb j c hj hc => by
          rcases Nat.lt_or_ge j k with h | h
          · exact ha.out j c h hc
          · obtain rfl : j = k := by omega
            rw [hpk] at hc
            cases hc
            exact hb
        by_cases h9 : (s[k]'hks).toNat = 9
        · have i9 : ((s[k]'hks).toNat : Int) = 9 := by omega
          have e9 : (((s[k]'hks).toNat : Int) == 9) = true := by rw [i9]; rfl
          have hg := hgood (by unfold L.plainB; rw [h9]; rfl)
          clear hbad hgood hpk ha
          go_wp2_with fail
          go_roundw
          case rel => exact ⟨k + 1, by go_num, by omega, hg, (by first | exact rfl | exact trivial)⟩
          case measure => simp [intOf]; omega
        · have i9 : ¬ ((s[k]'hks).toNat : Int) = 9 := by omega
          have e9 : (((s[k]'hks).toNat : Int) == 9) = false := beq_eq_false_iff_ne.2 i9
          by_cases h32 : 32 ≤ (s[k]'hks).toNat
          · have i32 : ¬ ((s[k]'hks).toNat : Int) < 32 := by omega
            by_cases h126 : (s[k]'hks).toNat ≤ 126
            · have i126 : ¬ (126 : Int) < ((s[k]'hks).toNat : Int) := by omega
              have hg := hgood (by unfold L.plainB; rw [decide_eq_true h32, decide_eq_true h126]; simp)
              clear hbad hgood hpk ha
              go_wp2_with fail
              go_roundw
              case rel => exact ⟨k + 1, by go_num, by omega, hg, (by first | exact rfl | exact trivial)⟩
              case measure => simp [intOf]; omega
            · have i126 : (126 : Int) < ((s[k]'hks).toNat : Int) := by omega
              have hg := Lib.hid (hbad (by unfold L.plainB; rw [decide_eq_false h9, decide_eq_false h126]; simp))
              clear hbad hgood hpk ha
              go_wp2_with fail
              go_ret2
              rw [hg.out]
              exact ⟨⟨_, [], rfl, rfl, World.ownsRow_nil _ _ _ _⟩, Below.refl _ _⟩
          · have i32 : ((s[k]'hks).toNat : Int) < 32 := by omega
            have hg := Lib.hid (hbad (by unfold L.plainB; rw [decide_eq_false h9, decide_eq_false h32]; simp))
            clear hbad hgood hpk ha
            go_wp2_with fail
            go_ret2
            rw [hg.out]
            exact ⟨⟨_, [], rfl, rfl, World.ownsRow_nil _ _ _ _⟩, Below.refl _ _⟩
      · obtain rfl : k = s.size := by omega
        have hall : (bs s).all L.plainB = true := List.all_eq_true.2 fun c hc => by
          obtain ⟨j, hj, he⟩ := List.getElem_of_mem hc
          exact ha.out j c (by rwa [length_bs] at hj) (he ▸ List.getElem?_eq_getElem hj)
        have hT1 := hT'.out
        rw [hall, if_neg (by simp), tokGo_N _ _ _ _ (.inl rfl)] at hT1
        have hT2 := Lib.hid hT1; clear hT1 hT' ha hall
        have hTr := Lib.hid (fun (t : ByteArray) W (h : t.size ≤ 1024) => trimL_any t W (by omega))
        go_wp2_with fail
        refine (hTr.out s wo hs4).mono ?_
        rintro e v1 ⟨⟨u, rfl, hu⟩, hb1⟩
        rw [← hu] at hT2
        have hul : u.size ≤ s.size := by
          have h1 := dropWhile_le L.sepL (bs s)
          rwa [← hu, length_bs, length_bs] at h1
        have hb1' := Lib.hid hb1; clear hb1 hu
        go_wp2_with fail
        go_loopw [5, 6] (fun s5 s6 wr => ∃ (t : ByteArray) (f : Nat) (acc : List TB), s6 = .string t ∧ t.size ≤ f ∧ acc.length + t.size ≤ 1024 ∧ Hid (L.tokN f (bs t) (acc.map TB.tok) = T) ∧ Hid (Toks wr wo.heap.size s5 acc) ∧ Hid (Below wo.heap.size wo wr)) (fun _ s6 _ => strSize s6)
        case atStart => exact ⟨u, s.size, [], rfl, hul, by simp; omega, hT2, World.ownsRow_nil _ _ _ _, hb1'⟩
        case round =>
          clear hT2 hb1' hul
          obtain ⟨t, f, acc, rfl, hf, hal, hg, hown, hb⟩ := hrel
          have hwr := hb.out.size
          by_cases hz : t.size = 0
          · have e1 : (t.toList == []) = true := list_emp hz
            have e2 : t.toList.isEmpty = true := isEmpty_zero hz
            have hbt : bs t = [] := List.eq_nil_of_length_eq_zero (by rw [length_bs]; exact hz)
            have hg1 := hg.out
            rw [hbt] at hg1
            unfold L.tokN at hg1
            rw [if_pos rfl] at hg1
            have hg' := Lib.hid hg1; clear hg1 hg hz hbt
            go_wp2_with fail
            go_ret2
            rw [← hg'.out]
            exact ⟨⟨_, acc, rfl, rfl, hown.out⟩, hb.out⟩
          · have e1 : (t.toList == []) = false := list_ne t (by omega)
            have e2 : t.toList.isEmpty = false := by
              have h := e1
              cases hl : t.toList with
              | nil => rw [hl] at h; cases h
              | cons a l => rfl
            have hbt : bs t ≠ [] := fun h => hz (by rw [← length_bs, h]; rfl)
            obtain ⟨f', rfl⟩ : ∃ f', f = f' + 1 := ⟨f - 1, by omega⟩
            have hg1 := hg.out
            unfold L.tokN at hg1
            rw [if_neg hbt] at hg1
            have hK := rtoken_any t wr (by omega)
            have hlt := @L.tokS_lt (bs t)
            rw [length_bs] at hlt
            obtain ⟨X, hX⟩ : ∃ X, L.tokS (bs t) = X := ⟨_, rfl⟩
            rw [hX] at hK hg1 hlt
            have hK' := Lib.hid hK; clear hK hX hg hbt
            by_cases hX0 : X.2.2 = 0
            · rw [if_neg (by simpa using hX0)] at hg1
              have hlt' := hlt hX0
              have hg' := Lib.hid hg1; clear hg1 hlt
              go_wp2_with fail
              refine hK'.out.mono ?_
              rintro e v3 ⟨⟨ta, tb, tc, td, rs, rfl, hok⟩, hb3⟩
              obtain ⟨h1, h2, h3, h4, h5⟩ := hok hX0
              have htk : Hid (TB.tok ⟨ta, tb, tc, td⟩ = X.1) := by
                show TB.tok ⟨ta, tb, tc, td⟩ = X.1
                unfold TB.tok
                rw [h1, h2, h3, h4]
              have hrs : rs.size = X.2.1.length := by rw [← h5, length_bs]
              have hrs2 : Hid (bs rs = X.2.1) := h5
              have hown3 : Hid (Toks v3 wo.heap.size u5 acc) := own_below hown.out hb3
              have hbb3 : Hid (Below wo.heap.size wo v3) := hb.out.trans (hb3.mono hwr)
              have hw3 := hbb3.out.size
              clear hown hb3 hb h1 h2 h3 h4 h5 hok hK'
              rw [hX0]
              unfold tokC
              have hownA : Hid (Toks (v3.alloc (.cells #[.string ta, .string tb, .string tc, .string td] 40)) wo.heap.size u5 acc) := own_below hown3.out (Below.alloc (Below.refl _ _) (Nat.le_refl _) _)
              have hbA : Hid (Below wo.heap.size wo (v3.alloc (.cells #[.string ta, .string tb, .string tc, .string td] 40))) := hbb3.out.alloc hw3 _
              go_wp2_with (at_builtin; refine wpList_append_own _ rfl (.tmp 48) (.tmp 50) 26 rfl wo.heap.size 40 i0 (.agg #[.string ⟨#[]⟩, .string ⟨#[]⟩, .string ⟨#[]⟩, .string ⟨#[]⟩]) 4 64 Tryd.underlying26 hi0'.out hz0'.out hz1'.out hz2'.out rfl (by decide) u5 acc.length (flatT acc) rfl (own_below hownA.out (Below.alloc (Below.refl _ _) (Nat.le_refl _) _)) ⟨v3.heap.size + 1, 0, none⟩ 1 1 [.string ta, .string tb, .string tc, .string td] rfl rfl (by intro j u hu; have := cell_tok_new (v3.alloc (.cells #[.string ta, .string tb, .string tc, .string td] 40)) (.string ta) (.string tb) (.string tc) (.string td) 40 j u hu; simpa using this) (by intro u hu; simp at hu; rcases hu with rfl | rfl | rfl | rfl <;> rfl) (by simp only [maxLen]; omega) (by omega) (by simp; omega) ?_; intro v' w1' hown' hgrow _)
              have hownB : Hid (Toks w1' wo.heap.size v' (acc ++ [⟨ta, tb, tc, td⟩])) := by
                show Toks w1' _ _ _
                unfold Toks
                rw [flatT_app, List.length_append]
                exact hown'
              have hbB : Hid (Below wo.heap.size wo w1') := (hbA.out.alloc (by simp; omega) _).grown hgrow (by simp; omega) (fun k e => by have := hown3.out.lt _ e; omega)
              have hgT : Hid (L.tokGo (f' + 1) true (bs rs) ((acc ++ [(⟨ta, tb, tc, td⟩ : TB)]).map TB.tok) = T) := by
                have := hg'.out
                rw [← htk.out, ← hrs2.out] at this
                rw [List.map_append]
                exact this
              clear hown' hgrow hown3 hownA hbA hbb3 hg' htk hrs2
              refine (hTr.out rs w1' (by omega)).mono ?_
              rintro e v4 ⟨⟨u, rfl, hu⟩, hb4⟩
              have hul2 := dropWhile_le L.sepL (bs rs)
              rw [← hu, length_bs, length_bs] at hul2
              have hownC : Hid (Toks v4 wo.heap.size v' (acc ++ [⟨ta, tb, tc, td⟩])) := own_below hownB.out hb4
              have hbC : Hid (Below wo.heap.size wo v4) := hbB.out.trans (hb4.mono hbB.out.size)
              have hu' := Lib.hid hu
              clear hownB hbB hb4 hu
              by_cases hr0 : rs.size = 0
              · have r1 : (rs.toList == []) = true := list_emp hr0
                have r2 : rs.toList.isEmpty = true := isEmpty_zero hr0
                have hgn := hgT.out
                rw [tokGo_N _ _ _ _ (.inr (.inl (by
                  rw [← hu'.out]
                  exact List.eq_nil_of_length_eq_zero (by rw [length_bs]; omega)))), ← hu'.out] at hgn
                have hgn' := Lib.hid hgn; clear hgn hgT hu'
                go_wp2_with fail
                go_roundw
                case rel => exact ⟨u, f', _, rfl, by omega, by simp; omega, hgn', hownC, hbC⟩
                case measure => simp [strSize]; omega
              · have r1 : (rs.toList == []) = false := list_ne rs (by omega)
                have r2 : rs.toList.isEmpty = false := by
                  have h := r1
                  cases hl : rs.toList with
                  | nil => rw [hl] at h; cases h
                  | cons a l => rfl
                by_cases hue : u = rs
                · subst hue
                  have r3 : (u.toList == u.toList) = true := by simp
                  have hgn := hgT.out
                  rw [tokGo_form _ _ _ (fun h => hr0 (by rw [← length_bs, h]; rfl)) hu'.out.symm] at hgn
                  have hgn' := Lib.hid hgn; clear hgn hgT hu'
                  go_wp2_with fail
                  go_ret2
                  rw [← hgn'.out]
                  exact ⟨⟨_, [], rfl, rfl, World.ownsRow_nil _ _ _ _⟩, hbC.out⟩
                · have r3 : (u.toList == rs.toList) = false := ne_listT hue
                  have hgn := hgT.out
                  rw [tokGo_N _ _ _ _ (.inr (.inr (fun h => hue (drop_same (hu'.out.trans (dropWhile_same h)))))), ← hu'.out] at hgn
                  have hgn' := Lib.hid hgn; clear hgn hgT hu'
                  go_wp2_with fail
                  go_roundw
                  case rel => exact ⟨u, f', _, rfl, by omega, by simp; omega, hgn', hownC, hbC⟩
                  case measure => simp [strSize]; omega
            · rw [if_pos (by simpa using hX0)] at hg1
              have hg' := Lib.hid hg1; clear hg1 hlt
              have ig : ¬ X.2.2 = 0 := hX0
              have ig' : (X.2.2 == 0) = false := beq_eq_false_iff_ne.2 hX0
              go_wp2_with fail
              refine hK'.out.mono ?_
              rintro e v3 ⟨⟨ta, tb, tc, td, rs, rfl, _⟩, hb3⟩
              have hbb3 : Hid (Below wo.heap.size wo v3) := hb.out.trans (hb3.mono hwr)
              have hw3 := hbb3.out.size
              clear hb3 hb hK'
              unfold tokC
              go_wp2_with fail
              go_ret2
              rw [← hg'.out]
              exact ⟨⟨_, [], rfl, rfl, World.ownsRow_nil _ _ _ _⟩, hbb3.out.alloc hw3 _⟩

end Go.Proofs.YtofemhaepadggaaDoor
