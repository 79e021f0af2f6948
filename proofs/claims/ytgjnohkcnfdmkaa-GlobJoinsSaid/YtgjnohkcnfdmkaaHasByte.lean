/-
  THE WALK of strings.Contains at a text of one byte.
-/
import Derived.Test.YtgjnohkcnfdmkaaRows
import Derived.Test.YtgjnohkcnfdmkaaMem
import Derived.Laws.Externs
namespace Go.Proofs.Ytgjnohkcnfdmkaa
open Go.RowKit

/-- Whether a byte is there. -/
def hasB (l : List Nat) (c : Nat) : Bool := l.any fun x => x == c
theorem firstIdx_has (s : ByteArray) (c : UInt8) : (0 ≤ firstIdx s c) ↔ hasB (bs s) c.toNat = true := by
  unfold hasB
  rw [List.any_eq_true]
  unfold firstIdx
  constructor
  · intro h
    split at h
    · rename_i i hi
      have h1 := List.find?_some hi
      have h2 := List.mem_range.1 (List.mem_of_find?_eq_some hi)
      refine ⟨c.toNat, ?_, by simp⟩
      have h3 := get_bs s i h2
      rw [getElem!_pos s i h2] at h1
      rw [beq_iff_eq.1 h1] at h3
      exact List.mem_of_getElem? h3
    · omega
  · rintro ⟨x, hx, hc⟩
    split
    · omega
    · rename_i hn
      exfalso
      obtain ⟨i, hi, rfl⟩ := List.getElem_of_mem hx
      have hi2 : i < s.size := by rw [← length_bs]; exact hi
      have h3 := get_bs s i hi2
      rw [List.getElem?_eq_getElem hi] at h3
      have h4 := List.find?_eq_none.1 hn i (List.mem_range.2 hi2)
      rw [getElem!_pos s i hi2] at h4
      apply h4
      rw [beq_iff_eq]
      rw [Option.some.inj h3, beq_iff_eq] at hc
      exact UInt8.toNat_inj.1 hc

set_option maxHeartbeats 1000000 in
set_option maxRecDepth 100000 in
theorem idxByte_any (s : ByteArray) (c : UInt8) (w : World) :
    Calls Try.prog 106 #[.string s, .int .u8 c.toNat] w fun e w' => e = .returned (.int .i64 (firstIdx s c)) ∧ w = w' := by
  go_enter Try.func106, Try.ntmps106
  go_wp2
  rw [run_callFunc_extern Try.func115 (by kernel_rfl) (by kernel_rfl) (by kernel_rfl) (e := Extern.BytealgIndexByte.indexByte) (by kernel_rfl), run_indexByte_string]
  simp only [Result.andThen]
  rw [Oper.upon_value]
  go_wp2
  go_ret
  exact ⟨by simp, rfl⟩

set_option maxHeartbeats 1000000 in
set_option maxRecDepth 100000 in
theorem indexB_any (s : ByteArray) (c : UInt8) (w : World) :
    Calls Try.prog 91 #[.string s, .string ⟨#[c]⟩] w fun e w' => ∃ i : Int, e = .returned (.int .i64 i) ∧ (0 ≤ i ↔ hasB (bs s) c.toNat = true) ∧ w = w' := by
  have hI := idxByte_any s c w
  have hI' := Lib.hid hI; clear hI
  go_enter Try.func91, Try.ntmps91
  go_wp2_with fail
  · have h : ([c] == s.toList) = true := by assumption
    have h2 : hasB (bs s) c.toNat = true := by
      have h3 : s.data.toList = [c] := by
        have := beq_iff_eq.1 h
        rw [ByteArray.toList_eq] at this
        exact this.symm
      unfold hasB bs
      rw [h3]
      simp
    go_ret
    exact ⟨0, rfl, ⟨fun _ => h2, fun _ => by omega⟩, rfl⟩
  · refine hI'.out.mono ?_
    rintro e w' ⟨rfl, rfl⟩
    have h2 := firstIdx_has s c
    generalize firstIdx s c = i at *
    go_wp2_with fail
    go_ret
    exact ⟨i, rfl, h2, rfl⟩
set_option maxHeartbeats 400000 in
theorem contains_any (s : ByteArray) (c : UInt8) (w : World) : Calls Try.prog 42 #[.string s, .string ⟨#[c]⟩] w fun e w' => e = .returned (.bool (hasB (bs s) c.toNat)) ∧ Below w.heap.size w w' := by
  have hI : Calls Try.prog 74 #[.string s, .string ⟨#[c]⟩] w fun e w' => ∃ i : Int, e = .returned (.int .i64 i) ∧ (0 ≤ i ↔ hasB (bs s) c.toNat = true) ∧ w = w' := by
    have hJ := indexB_any s c w
    have hJ' := Lib.hid hJ; clear hJ
    go_enter Try.func74, Try.ntmps74
    go_wp2_with fail
    refine hJ'.out.mono ?_
    rintro e w' ⟨i, rfl, hi, rfl⟩
    have hi' := Lib.hid hi; clear hi
    go_wp2_with fail
    go_ret
    exact ⟨i, rfl, hi'.out, rfl⟩
  have hI' := Lib.hid hI; clear hI
  go_enter Try.func42, Try.ntmps42
  go_wp2_with fail
  refine hI'.out.mono ?_
  rintro e w' ⟨i, rfl, hi, rfl⟩
  have hd : decide (0 ≤ i) = hasB (bs s) c.toNat := by rw [Bool.eq_iff_iff, decide_eq_true_eq]; exact hi
  have hd' := Lib.hid hd; clear hd hi
  go_wp2_with fail
  go_ret
  exact ⟨by rw [← hd'.out]; rfl, Below.refl _ _⟩

end Go.Proofs.Ytgjnohkcnfdmkaa
