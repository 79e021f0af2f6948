/-
  THE FIRST WALKS of the package lexer: kinds of bytes, counts, what is cut off at a text's beginning.
-/
import Derived.Test.YtofemhaepadggaaDoorMem
import Derived.Test.YtofemhaepadggaaDoorLexP
import Derived.Test.YtofemhaepadggaaDoorLexShelf
namespace Go.Proofs.YtofemhaepadggaaDoor
open Go.RowKit

theorem own_only {S : Nat → Prop} {w w' : World} {B : Nat} {e : TypeId} {size n : Nat} {v : Value} {xs : List Value} (h : w.ownsRow B e size v n xs) (ho : Only S w w') (hS : ∀ g, v.ownBlock = some g → ¬ S g) : w'.ownsRow B e size v n xs := by
  refine ⟨h.1, ?_⟩
  rcases h.2 with hn | ⟨g, cap, cur, rfl, hb, hg, rest⟩
  · exact .inl hn
  · refine .inr ⟨g, cap, cur, rfl, hb, ?_, rest⟩
    rw [ho.block g (Array.getElem?_eq_some_iff.1 hg).1 (hS g rfl)]
    exact hg
theorem own_mono {w : World} {B B' : Nat} {e : TypeId} {size n : Nat} {v : Value} {xs : List Value} (h : w.ownsRow B e size v n xs) (hB : B' ≤ B) : w.ownsRow B' e size v n xs := by
  refine ⟨h.1, ?_⟩
  rcases h.2 with hn | ⟨g, cap, cur, rfl, hb, rest⟩
  · exact .inl hn
  · exact .inr ⟨g, cap, cur, rfl, by omega, rest⟩
theorem own_below {w w' : World} {B : Nat} {e : TypeId} {size n : Nat} {v : Value} {xs : List Value} (h : w.ownsRow B e size v n xs) (hb : Below w.heap.size w w') : w'.ownsRow B e size v n xs :=
  World.ownsRow.kept (row := none) h ⟨hb.os, hb.tape, hb.output, hb.size, fun k hk _ => hb.block k hk⟩ (by
    cases hv : v.ownBlock with
    | none => exact .inl rfl
    | some k => exact .inr (by simp))
theorem list_ne (s : ByteArray) (h0 : 0 < s.size) : (s.toList == []) = false := by
  rw [beq_eq_false_iff_ne]
  intro h
  rw [ByteArray.toList_eq] at h
  have : s.data = #[] := Array.toList_inj.1 h
  have h2 : s.size = 0 := by show s.data.size = 0; rw [this]; rfl
  omega
theorem list_emp {s : ByteArray} (h : s.size = 0) : (s.toList == []) = true := by
  have := isEmpty_zero h
  rw [List.isEmpty_iff] at this
  rw [this]; rfl
theorem bs_inj {s t : ByteArray} (h : bs s = bs t) : s = t := by
  have : s.data.toList = t.data.toList := (List.map_inj_right (fun a b h => UInt8.toNat_inj.1 h)).1 h
  cases s; cases t
  simp only [ByteArray.mk.injEq]
  exact Array.toList_inj.1 this
theorem bs_of (l : List UInt8) : bs ⟨l.toArray⟩ = l.map UInt8.toNat := by simp [bs]
theorem bs_data (s : ByteArray) : bs s = s.data.toList.map UInt8.toNat := rfl

theorem letter_any (c : UInt8) (w : World) : Calls Tryd.prog 50 #[.int .u8 c.toNat] w fun e w' => e = .returned (.bool (L.letter c.toNat)) ∧ w' = w := by
  unfold L.letter
  by_cases h1 : 65 ≤ c.toNat
  · have i1 : (65 : Int) ≤ (c.toNat : Int) := by omega
    by_cases h2 : c.toNat ≤ 90
    · have i2 : (c.toNat : Int) ≤ 90 := by omega
      rw [decide_eq_true h1, decide_eq_true h2]
      go_enter Tryd.func50, Tryd.ntmps50
      go_wp2_with fail
      go_ret
      exact ⟨rfl, rfl⟩
    · have i2 : ¬ (c.toNat : Int) ≤ 90 := by omega
      have i3 : decide ((c.toNat : Int) ≤ 90) = false := decide_eq_false i2
      rw [decide_eq_true h1, decide_eq_false h2]
      go_enter Tryd.func50, Tryd.ntmps50
      go_wp2_with fail
      go_ret
      exact ⟨by first | rfl | (show Ending.returned (Value.bool (decide ((c.toNat : Int) ≤ 90))) = _; rw [i3]; rfl), rfl⟩
  · have i1 : ¬ (65 : Int) ≤ (c.toNat : Int) := by omega
    rw [decide_eq_false h1]
    go_enter Tryd.func50, Tryd.ntmps50
    go_wp2_with fail
    go_ret
    exact ⟨rfl, rfl⟩

theorem inName_any (c : UInt8) (w : World) : Calls Tryd.prog 51 #[.int .u8 c.toNat] w fun e w' => e = .returned (.bool (L.inName c.toNat)) ∧ w' = w := by
  unfold L.inName
  by_cases h1 : 32 < c.toNat
  · have i1 : (32 : Int) < (c.toNat : Int) := by omega
    by_cases h2 : c.toNat ≤ 126
    · have i2 : (c.toNat : Int) ≤ 126 := by omega
      by_cases h3 : c.toNat = 123
      · have i3 : (c.toNat : Int) = 123 := by omega
        rw [decide_eq_true h1, decide_eq_true h2, decide_eq_false (by omega : ¬ c.toNat ≠ 123)]
        go_enter Tryd.func51, Tryd.ntmps51
        go_wp2_with fail
        go_ret
        exact ⟨by simp [i3], rfl⟩
      · have i3 : ¬ (c.toNat : Int) = 123 := by omega
        by_cases h4 : c.toNat = 125
        · have i4 : (c.toNat : Int) = 125 := by omega
          rw [decide_eq_true h1, decide_eq_true h2, decide_eq_true h3, decide_eq_false (by omega : ¬ c.toNat ≠ 125)]
          go_enter Tryd.func51, Tryd.ntmps51
          go_wp2_with fail
          go_ret
          exact ⟨by simp [i4], rfl⟩
        · have i4 : ¬ (c.toNat : Int) = 125 := by omega
          by_cases h5 : c.toNat = 34
          · have i5 : (c.toNat : Int) = 34 := by omega
            rw [decide_eq_true h1, decide_eq_true h2, decide_eq_true h3, decide_eq_true h4, decide_eq_false (by omega : ¬ c.toNat ≠ 34)]
            go_enter Tryd.func51, Tryd.ntmps51
            go_wp2_with fail
            go_ret
            exact ⟨by simp [i5], rfl⟩
          · have i5 : ¬ (c.toNat : Int) = 34 := by omega
            rw [decide_eq_true h1, decide_eq_true h2, decide_eq_true h3, decide_eq_true h4, decide_eq_true h5]
            go_enter Tryd.func51, Tryd.ntmps51
            go_wp2_with fail
            go_ret
            exact ⟨by simp [i3, i4, i5], rfl⟩
    · have i2 : ¬ (c.toNat : Int) ≤ 126 := by omega
      rw [decide_eq_true h1, decide_eq_false h2]
      go_enter Tryd.func51, Tryd.ntmps51
      go_wp2_with fail
      go_ret
      exact ⟨rfl, rfl⟩
  · have i1 : ¬ (32 : Int) < (c.toNat : Int) := by omega
    rw [decide_eq_false h1]
    go_enter Tryd.func51, Tryd.ntmps51
    go_wp2_with fail
    go_ret
    exact ⟨rfl, rfl⟩

set_option maxHeartbeats 1000000 in
theorem count_gen (p : Nat → Bool) (g : Nat) (hgf : g = 50 ∨ g = 51) (hp : ∀ (c : UInt8) W, Calls Tryd.prog g #[.int .u8 c.toNat] W fun e w' => e = .returned (.bool (p c.toNat)) ∧ w' = W) (s : ByteArray) (w : World) (hs : s.size ≤ 1000000000000) :
    Calls Tryd.prog 49 #[.string s, .func (Fn.func g) #[] #[]] w fun e w' => e = .returned (.int .i64 (L.cnt p (bs s) : Nat)) ∧ Below w.heap.size w w' := by
  have hp' := Lib.hid hp; clear hp
  rcases hgf with rfl | rfl
  all_goals
    go_enter Tryd.func49, Tryd.ntmps49
    go_wp2_with fail
    go_loopw [5] (fun s5 wr => ∃ k : Nat, s5 = .int .i64 k ∧ k ≤ s.size ∧ Hid (∀ j, j < k → ∃ c, (bs s)[j]? = some c ∧ p c = true) ∧ Below w.heap.size w wr) (fun s5 _ => s.size - (intOf s5).toNat)
    case atStart => exact ⟨0, rfl, by omega, fun j hj => by omega, Below.refl _ _⟩
    case round =>
      obtain ⟨k, rfl, hk, ha, hb⟩ := hrel
      by_cases hks : k < s.size
      · have hpk := get_bs s k hks
        have hC := hp'.out (s[k]'hks) wr
        have hb' := Lib.hid hb; clear hb
        cases hb0 : p (s[k]'hks).toNat with
        | true =>
          have hfin : ∀ j, j < k + 1 → ∃ c, (bs s)[j]? = some c ∧ p c = true := fun j hj => by
            rcases Nat.lt_or_ge j k with h | h
            · exact ha.out j h
            · obtain rfl : j = k := by omega
              exact ⟨_, hpk, hb0⟩
          rw [hb0] at hC
          have hC' := Lib.hid hC; clear hC
          have hfin' := Lib.hid hfin; clear hfin ha hpk hb0
          go_wp2_with fail
          refine hC'.out.mono ?_
          rintro e v1 ⟨rfl, rfl⟩
          go_wp2_with fail
          go_roundw
          case rel => exact ⟨k + 1, by go_num, by omega, hfin', hb'.out⟩
          case measure => simp [intOf]; omega
        | false =>
          have hfin : L.cnt p (bs s) = k := L.cnt_stop ha.out fun c hc => by
            rw [hpk] at hc
            cases hc
            exact hb0
          rw [hb0] at hC
          have hC' := Lib.hid hC; clear hC
          have hfin' := Lib.hid hfin; clear hfin ha hpk hb0
          go_wp2_with fail
          refine hC'.out.mono ?_
          rintro e v1 ⟨rfl, rfl⟩
          go_wp2_with fail
          go_ret
          exact ⟨by rw [hfin'.out]; rfl, hb'.out⟩
      · obtain rfl : k = s.size := by omega
        have hfin : L.cnt p (bs s) = s.size := L.cnt_stop ha.out fun c hc => by
          rw [List.getElem?_eq_none (by rw [length_bs]; exact Nat.le_refl _)] at hc
          cases hc
        have hfin' := Lib.hid hfin; clear hfin ha
        have hb' := Lib.hid hb; clear hb
        go_wp2_with fail
        go_ret
        exact ⟨by rw [hfin'.out]; rfl, hb'.out⟩

theorem prefix_one (l : List UInt8) (c : UInt8) : Lib.hasPrefix l [c] = decide (l.head? = some c) := by
  unfold Lib.hasPrefix
  cases l with
  | nil => rfl
  | cons a l =>
    by_cases h : a = c
    · subst h; simp [List.isPrefixOf]
    · simp [List.isPrefixOf, h, Ne.symm h]

end Go.Proofs.YtofemhaepadggaaDoor
