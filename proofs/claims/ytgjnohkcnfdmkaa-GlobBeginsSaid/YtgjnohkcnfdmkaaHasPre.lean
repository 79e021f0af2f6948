/-
  THE WALK of strings.HasPrefix at a text that begins so.
-/
import Derived.Test.YtgjnohkcnfdmkaaKnown
namespace Go.Proofs.Ytgjnohkcnfdmkaa
open Go.RowKit

set_option maxHeartbeats 400000 in
theorem hasPre_any (s b : ByteArray) (w : World) (h : bs b <+: bs s) (hs : s.size ≤ 1000000000) :
    Calls Try.prog 41 #[.string s, .string b] w fun e w' => e = .returned (.bool true) ∧ w = w' := by
  have hl : b.size ≤ s.size := by
    have := h.length_le
    rwa [length_bs, length_bs] at this
  have e0 : s.extract 0 b.size = b := bs_eq (by
    rw [bs_take]
    have := List.prefix_iff_eq_take.1 h
    rw [length_bs] at this
    exact this.symm)
  have h1 : (b.size : Int) ≤ (s.size : Int) := by omega
  clear h
  go_enter Try.func41, Try.ntmps41
  go_wp2
  all_goals go_ret
  all_goals (refine ⟨?_, rfl⟩)
  all_goals simp_all

end Go.Proofs.Ytgjnohkcnfdmkaa
