/-
  THE WALKS of lexer.plain, of strings.TrimLeft at a set of bytes below 128, of lexer.blank.
-/
import Derived.Test.YtofemhaepadggaaDoorLexParts
import Derived.Laws.RangeAny
import Derived.Great.BuildSlice
namespace Go.Proofs.YtofemhaepadggaaDoor
open Go.RowKit

set_option maxHeartbeats 1000000 in
theorem plain_any (s : ByteArray) (w : World) (hs : s.size ≤ 1000000000) : Calls Tryd.prog 30 #[.string s] w fun e w' => e = .returned (.bool ((bs s).all L.plainB)) ∧ Below w.heap.size w w' := by
  have hI : ∀ k, Below w.heap.size w (w.iter s k) := fun k => (Below.refl _ _).alloc (Nat.le_refl _) _
  have hI' := Lib.hid hI; clear hI
  go_enter Tryd.func30, Tryd.ntmps30
  go_wp2_with fail
  go_loopw [] (fun wr => ∃ k : Nat, wr = w.iter s k ∧ k ≤ s.size ∧ Hid (((bs s).take k).all L.plainB = true)) (fun wr => s.size - wr.iterPos w.heap.size)
  case atStart => exact ⟨0, rfl, by omega, by simp [Hid]⟩
  case round =>
    obtain ⟨k, rfl, hk, ha⟩ := hrel
    by_cases hks : k < s.size
    · have hpk := get_bs s k hks
      have hno : L.plainB (s[k]'hks).toNat = false → (bs s).all L.plainB = false := fun h => by
        rw [List.all_eq_false]
        exact ⟨_, List.mem_of_getElem? hpk, by simp [h]⟩
      have hyes : L.plainB (s[k]'hks).toNat = true → ((bs s).take (k + 1)).all L.plainB = true := fun h => by
        rw [List.take_add_one, hpk, List.all_append, ha.out]
        simp [h]
      have hno' := Lib.hid hno; clear hno
      have hyes' := Lib.hid hyes; clear hyes hpk ha
      by_cases h128 : (s[k]'hks).toNat < 128
      · have hnx := fun ty => run_next_ascii (P := Tryd.prog) w s k ty hks h128
        by_cases h9 : (s[k]'hks).toNat = 9
        · have i9 : ((s[k]'hks).toNat : Int) = 9 := by omega
          have hfin := Lib.hid (hyes'.out (by unfold L.plainB; rw [decide_eq_true h9]; rfl)); clear hno' hyes'
          go_wp2_with fail
          go_roundw
          case rel => exact ⟨k + 1, rfl, by omega, hfin⟩
          case measure => simp; omega
        · have i9 : (((s[k]'hks).toNat : Int) == 9) = false := beq_eq_false_iff_ne.2 (by omega)
          by_cases h32 : 32 ≤ (s[k]'hks).toNat
          · have i32 : (32 : Int) ≤ ((s[k]'hks).toNat : Int) := by omega
            by_cases h126 : (s[k]'hks).toNat ≤ 126
            · have i126 : ((s[k]'hks).toNat : Int) ≤ 126 := by omega
              have hfin := Lib.hid (hyes'.out (by unfold L.plainB; rw [decide_eq_true h32, decide_eq_true h126]; simp)); clear hno' hyes'
              go_wp2_with fail
              go_roundw
              case rel => exact ⟨k + 1, rfl, by omega, hfin⟩
              case measure => simp; omega
            · have i126 : ¬ ((s[k]'hks).toNat : Int) ≤ 126 := by omega
              have hfin := Lib.hid (hno'.out (by unfold L.plainB; rw [decide_eq_false h9, decide_eq_false h126]; simp)); clear hno' hyes'
              go_wp2_with fail
              go_ret
              exact ⟨by rw [hfin.out]; rfl, hI'.out _⟩
          · have i32 : ¬ (32 : Int) ≤ ((s[k]'hks).toNat : Int) := by omega
            have hfin := Lib.hid (hno'.out (by unfold L.plainB; rw [decide_eq_false h9, decide_eq_false h32]; simp)); clear hno' hyes'
            go_wp2_with fail
            go_ret
            exact ⟨by rw [hfin.out]; rfl, hI'.out _⟩
      · have hnx := fun ty => run_next_any (P := Tryd.prog) w s k ty hks
        have hhigh := (decode_high s k hks (by omega)).1
        have hfin := Lib.hid (hno'.out (by unfold L.plainB; rw [decide_eq_false (by omega : ¬ (s[k]'hks).toNat = 9), decide_eq_false (by omega : ¬ (s[k]'hks).toNat ≤ 126)]; simp)); clear hno' hyes'
        generalize (Utf8.decode s k).1 = rn at *
        generalize (Utf8.decode s k).2 = wd at *
        have i9 : ((rn : Int) == 9) = false := beq_eq_false_iff_ne.2 (by omega)
        have i32 : (32 : Int) ≤ (rn : Int) := by omega
        have i126 : ¬ (rn : Int) ≤ 126 := by omega
        go_wp2_with fail
        go_ret
        exact ⟨by rw [hfin.out]; rfl, hI'.out _⟩
    · obtain rfl : k = s.size := by omega
      have hall : (bs s).all L.plainB = true := by
        have := ha.out
        rwa [List.take_of_length_le (by rw [length_bs]; exact Nat.le_refl _)] at this
      have hall' := Lib.hid hall; clear hall ha
      have hnx := fun ty => run_next_end (P := Tryd.prog) w s s.size ty hks
      go_wp2_with fail
      go_ret
      exact ⟨by rw [hall'.out]; rfl, hI'.out _⟩

end Go.Proofs.YtofemhaepadggaaDoor
