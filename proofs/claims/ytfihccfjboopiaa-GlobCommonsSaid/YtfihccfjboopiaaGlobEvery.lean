/-
  THE WALK of glob.every: the set of all bytes from 32 to 126.
-/
import Derived.Test.YtfihccfjboopiaaGlobMem
namespace Go.Proofs.Ytfihccfjboopiaa
open Go.RowKit

set_option maxHeartbeats 400000 in
theorem every_any (w : World) : Calls Try.prog 80 #[] w fun e w' => e = .returned (.agg (setArr G.pr)) ∧ Below w.heap.size w w' := by
  go_enter Try.func80, Try.ntmps80
  go_wp2_with fail
  go_loopw [2] (fun i wr => ∃ k : Nat, 32 ≤ k ∧ k ≤ 127 ∧ i = .int .i64 k ∧ Below w.heap.size w wr ∧ Blk wr (w.heap.size) 116 (setArr G.none') ∧ Blk wr (w.heap.size + 1) 116 (setArr (prTo k))) (fun i _ => 127 - (intOf i).toNat)
  case atStart =>
    refine ⟨32, by omega, by omega, rfl, ((Below.refl _ _).alloc (Nat.le_refl _) _).alloc (by simp) _, ?_, ?_⟩
    · rw [zero_set]; exact (Blk.new _ _ _).alloc _
    · rw [prTo_32, zero_set]; exact Blk.new_ (w.alloc _) _ _ (by simp)
  case round =>
    obtain ⟨k, h1, h2, rfl, hb, H1, H2⟩ := hrel
    obtain ⟨v, hc⟩ : ∃ v, k < 127 → wr.cell? ⟨w.heap.size + 1, k, none⟩ = some v := ⟨_, fun h => (H2.cell k).trans (setArr_get _ _ h)⟩
    have hf := H2.frozen k
    have H1' := Lib.hid H1; clear H1
    have H2' := Lib.hid H2; clear H2
    have hb' := Lib.hid hb; clear hb
    by_cases hk : k < 127
    · go_wp2_with fail
      go_roundw
      case rel =>
        refine ⟨k + 1, by omega, by omega, by go_num, hb'.out.setCell (by simp) _, H1'.out.other (by simp) _, ?_⟩
        rw [← prTo_upd k h1, ← setArr_upd]
        exact H2'.out.store k _
      case measure => simp [intOf]; omega
    · obtain rfl : k = 127 := by omega
      go_wp2_with (first
        | (refine wpList_load_row rfl 116 (.tmp 1) rfl (w.heap.size + 1) rfl 116 _ (0, 0) _ H2'.out Try.underlying116 rfl (sizeSet' _) ?_)
        | (refine wpList_store_row rfl 116 (.tmp 0) (.tmp 9) rfl w.heap.size _ rfl rfl 116 _ H1'.out (sizeSet' _) (by rw [size_setArr, size_setArr]) (one_setArr _) ?_))
      refine bodyPost_ret (results_cell_row rfl _ _ w.heap.size 116 _ (0, 0) _ rfl (H1'.out.row _) Try.underlying116 rfl (sizeSet' _)) rfl ⟨by rw [prTo_127], below_row hb'.out (Nat.le_refl _) _⟩

end Go.Proofs.Ytfihccfjboopiaa
