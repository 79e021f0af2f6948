/-
  THE WALK of coldplugref02.byteOK and Printable.
-/
import Derived.Test.YtfihccfjboopiaaNameText
namespace Go.Proofs.Ytfihccfjboopiaa
open Go.RowKit

theorem byteOK_any (c : Nat) (hc : c < 256) (w : World) : Calls Try.prog 78 #[.int .u8 c] w fun e w' => e = .returned (.bool (G.pr c)) ∧ w = w' := by
  have h1 : G.pr c = (decide (32 ≤ c) && decide (c ≤ 126)) := rfl
  rw [h1]
  go_enter Try.func78, Try.ntmps78
  go_wp2
  · have h : (32 : Int) ≤ (c : Int) := by assumption
    go_ret
    refine ⟨?_, rfl⟩
    rw [decide_eq_true (p := 32 ≤ c) (by omega), Bool.true_and]
    simp
    omega
  · have h : (c : Int) < 32 := by assumption
    go_ret
    refine ⟨?_, rfl⟩
    rw [decide_eq_false (p := 32 ≤ c) (by omega), Bool.false_and]
    rfl

set_option maxHeartbeats 400000 in
theorem printable_any (s : ByteArray) (w : World) (hs : s.size ≤ 9223372036854775807) :
    Calls Try.prog 61 #[.string s] w fun e w' => e = .returned (.bool ((bs s).all G.pr)) ∧ w = w' := by
  go_enter Try.func61, Try.ntmps61
  go_wp2_with fail
  go_loop [3] (fun i => ∃ k : Nat, k ≤ s.size ∧ i = .int .i64 k ∧ Hid (((bs s).take k).all G.pr = true)) (fun i => s.size - (intOf i).toNat)
  case atStart => exact ⟨0, by omega, rfl, by simp [Hid]⟩
  case round =>
    obtain ⟨k, hk, rfl, ha⟩ := hrel
    by_cases hlt : k < s.size
    · obtain ⟨b, hb⟩ : ∃ b, G.pr (s[k]'hlt).toNat = b := ⟨_, rfl⟩
      have hP : Calls Try.prog 78 #[.int .u8 (s[k]'hlt).toNat] w fun e w' => e = .returned (.bool b) ∧ w = w' := by
        rw [← hb]
        exact byteOK_any _ (UInt8.toNat_lt _) w
      have hP' := Lib.hid hP; clear hP
      have hb' := Lib.hid hb; clear hb
      go_wp2_with (go_at_call 78; refine hP'.out.mono ?_; rintro e w' ⟨rfl, rfl⟩; cases b)
      · go_ret
        refine ⟨?_, rfl⟩
        have hno : (bs s).all G.pr = false := by
          rw [List.all_eq_false]
          exact ⟨_, List.mem_of_getElem? (get_bs s k hlt), by rw [hb'.out]; simp⟩
        rw [hno]
        rfl
      · refine ⟨⟨k + 1, by omega, by go_num, ?_⟩, ?_⟩
        · show _ = _
          rw [List.take_add_one, get_bs s k hlt, List.all_append, ha.out]
          simp [hb'.out]
        · simp [intOf]
          omega
    · have hall : (bs s).all G.pr = true := by
        have := ha.out
        rwa [List.take_of_length_le (by rw [length_bs]; omega)] at this
      have hall' := Lib.hid hall; clear hall
      go_wp2
      go_ret
      exact ⟨by rw [hall'.out]; rfl, rfl⟩

end Go.Proofs.Ytfihccfjboopiaa
