/-
  THE WALK of (view).up: the iterator's maker.
-/
import Derived.Test.YtfihccfjboopiaaTreeUp
namespace Go.Proofs.Ytfihccfjboopiaa
open Go Go.RowKit Go.Maps

set_option maxRecDepth 100000 in
theorem vup_any (p : Option Addr) (n c b1 b2 : Nat) (i : Int) (w : World) :
    Calls Try.prog 75 #[viewV p n c b1 b2, .int .i64 i] w fun e w' => e = .returned (.func (.func 89) #[] #[.pointer (some ⟨w.heap.size, 0, none⟩), .pointer (some ⟨w.heap.size + 1, 0, none⟩)]) ∧
      w' = (w.alloc (.cells #[.slice p n c, .map (some b1), .map (some b2)] 139)).alloc (.cells #[.int .i64 i] 3) := by
  unfold viewV
  go_enter Try.func75, Try.ntmps75
  go_wp2_with fail
  go_ret
  exact ⟨by simp, rfl⟩

end Go.Proofs.Ytfihccfjboopiaa
