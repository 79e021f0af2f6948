/-
  helper.Call: what any command answers.
-/
import Derived.Test.YtgjnohkcnfdmkaaDoorHelpSlow
import Derived.Test.YtgjnohkcnfdmkaaDoorHelpFails
import Derived.Test.YtgjnohkcnfdmkaaDoorHelpGood
namespace Go.Proofs.YtgjnohkcnfdmkaaDoor
open Go.RowKit

theorem call_any (l : List Hp) (v : Value) (limit calls : Int) (c : ByteArray) (w : World) (hl : HelpersAt w v l) (h1 : ∀ h ∈ l, h.cmd.size ≤ 1000000000000) (h2 : c.size ≤ 1000000000000) :
    Calls Tryd.prog 13 #[v, .int .i64 limit, .int .i64 calls, .string c] w fun e w' => e = .returned (.tuple #[.string (callS l limit calls c).1, .int .i64 (callS l limit calls c).2.1, .int .i64 (callS l limit calls c).2.2]) ∧ Below w.heap.size w w' := by
  unfold callS
  by_cases h16 : 16 ≤ calls
  · rw [if_pos h16]
    exact call_many v limit calls c w h16
  · rw [if_neg h16]
    cases hf : l.find? (hits c) with
    | none => exact call_none l v limit calls c w h16 hl h1 h2 hf
    | some h =>
      simp only
      by_cases hlim : limit < h.ticks
      · rw [if_pos hlim]
        exact call_slow l v limit calls c w h16 hl h1 h2 h hf hlim
      · rw [if_neg hlim]
        cases hfa : h.fails with
        | true =>
          rw [if_pos rfl]
          exact call_fails l v limit calls c w h16 hl h1 h2 h hf hlim hfa
        | false =>
          rw [if_neg (by decide)]
          exact call_good l v limit calls c w h16 hl h1 h2 h hf hlim hfa

end Go.Proofs.YtgjnohkcnfdmkaaDoor
