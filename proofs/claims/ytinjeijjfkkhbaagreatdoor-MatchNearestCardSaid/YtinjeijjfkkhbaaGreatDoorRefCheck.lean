/-
  THE WALK of coldplugref02.Check; Parse of the reference as the other walks use it.
-/
import Derived.Test.YtinjeijjfkkhbaaGreatDoorRefParse
import Derived.Test.YtinjeijjfkkhbaaGreatDoorGlobMatchFn
import Derived.Test.YtinjeijjfkkhbaaGreatDoorGlobJoin
namespace Go.Proofs.YtinjeijjfkkhbaaGreatDoor
open Go.RowKit

theorem rparse_good (p : ByteArray) (w : World) {l : List (List G.El)} (h : G.alts (bs p) = some l) :
    Calls Tryz.prog 87 #[.string p] w fun e w' => ∃ v, e = .returned (.tuple #[v, .bool true]) ∧ Below w.heap.size w w' ∧ AltsR w' w.heap.size v l ∧ l.length ≤ 257 ∧ ∀ a, a ∈ l → a.length ≤ 256 := by
  have hp : p.size ≤ 256 := by have := (G.alts_all h).1; rwa [length_bs] at this
  refine (rparse_any p w hp).mono ?_
  rintro e w' ⟨v, ok, rfl, hb, hno, hyes⟩
  cases ok with
  | false => rw [hno rfl] at h; cases h
  | true =>
    obtain ⟨l', hl, h1, h2, h3⟩ := hyes rfl
    rw [h] at hl
    cases hl
    exact ⟨v, rfl, hb, h1, h2, h3⟩
theorem rparse_none (p : ByteArray) (w : World) (hp : p.size ≤ 256) (h : G.alts (bs p) = none) :
    Calls Tryz.prog 87 #[.string p] w fun e w' => ∃ v, e = .returned (.tuple #[v, .bool false]) ∧ Below w.heap.size w w' := by
  refine (rparse_any p w hp).mono ?_
  rintro e w' ⟨v, ok, rfl, hb, hno, hyes⟩
  cases ok with
  | false => exact ⟨v, rfl, hb⟩
  | true =>
    obtain ⟨l', hl, _⟩ := hyes rfl
    rw [h] at hl
    cases hl

set_option maxHeartbeats 400000 in
theorem rcheck_any (p : ByteArray) (w : World) (hsz : p.size ≤ 9223372036854775807) : Calls Tryz.prog 85 #[.string p] w fun e w' => e = .returned (.int .i64 (errS (bs p))) ∧ Below w.heap.size w w' := by
  by_cases h1 : 256 < p.size
  · have he : errS (bs p) = 21 := by unfold errS; rw [if_pos (by rw [length_bs]; exact h1)]
    have hi : (256 : Int) < (p.size : Int) := by omega
    rw [he]
    clear he
    go_enter Tryz.func85, Tryz.ntmps85
    go_wp2_with fail
    go_ret
    exact ⟨rfl, Below.refl _ _⟩
  · have hi : ¬ (256 : Int) < (p.size : Int) := by omega
    cases ha : G.alts (bs p) with
    | none =>
      have he : errS (bs p) = 20 := by unfold errS; rw [if_neg (by rw [length_bs]; exact h1), ha]; rfl
      have hP := rparse_none p w (by omega) ha
      have hP' := Lib.hid hP; clear hP ha
      rw [he]
      clear he
      go_enter Tryz.func85, Tryz.ntmps85
      go_wp2_with fail
      refine hP'.out.mono ?_
      rintro e w' ⟨v, rfl, hb⟩
      go_wp2_with fail
      go_ret
      exact ⟨rfl, hb⟩
    | some l =>
      have he : errS (bs p) = 0 := errS_some ha
      have hP := rparse_good p w ha
      have hP' := Lib.hid hP; clear hP ha
      rw [he]
      clear he
      go_enter Tryz.func85, Tryz.ntmps85
      go_wp2_with fail
      refine hP'.out.mono ?_
      rintro e w' ⟨v, rfl, hb, _⟩
      go_wp2_with fail
      go_ret
      exact ⟨rfl, hb⟩

end Go.Proofs.YtinjeijjfkkhbaaGreatDoor
