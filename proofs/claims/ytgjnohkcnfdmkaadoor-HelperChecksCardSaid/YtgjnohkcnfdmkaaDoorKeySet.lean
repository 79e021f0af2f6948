/-
  THE WALKS of name's sets of bytes and of name.Key, and of the reference's Key.
-/
import Derived.Test.YtgjnohkcnfdmkaaDoorGlobMem
import Derived.Test.YtgjnohkcnfdmkaaDoorNameText
namespace Go.Proofs.YtgjnohkcnfdmkaaDoor
open Go.RowKit

def setK (s : Nat → Bool) : Array Value := Array.ofFn (n := 256) fun i => .bool (s i.val)
theorem setK_get (s : Nat → Bool) (k : Nat) (h : k < 256) : (setK s)[k]? = some (.bool (s k)) := by
  simp [setK, h]
theorem size_setK (s : Nat → Bool) : (setK s).size = 256 := by simp [setK]
theorem one_setK (s : Nat → Bool) : (setK s).all (·.oneCell') = true := by
  rw [Array.all_eq_true_iff_forall_mem]
  intro v hv
  simp only [setK, Array.mem_ofFn] at hv
  obtain ⟨i, rfl⟩ := hv
  rfl
theorem setK_upd (s : Nat → Bool) (k : Nat) (b : Bool) : (setK s).setIfInBounds k (.bool b) = setK (upd s k b) := by
  unfold setK
  apply Array.ext
  · simp
  · intro i h1 h2
    rw [Array.getElem_setIfInBounds (by simpa using h1)]
    simp only [Array.getElem_ofFn, upd]
    by_cases h : k = i
    · simp [h]
    · rw [if_neg h, if_neg (fun e => h e.symm)]
theorem setK_congr {s s' : Nat → Bool} (h : ∀ i, i < 256 → s i = s' i) : setK s = setK s' := by
  unfold setK
  apply Array.ext
  · simp
  · intro i h1 h2
    simp only [Array.getElem_ofFn]
    rw [h i (by simpa using h1)]
theorem zero_setK : Tryd.zeroCells63 = setK G.none' := by kernel_rfl


theorem sizeSetK (s : Nat → Bool) : (Tryd.prog.info? 63).map (·.size) = some (setK s).size := by
  rw [size_setK]; kernel_rfl

/-- A set with the bytes of a text. -/
def plusS (S : Nat → Bool) (l : List Nat) (i : Nat) : Bool := S i || l.contains i
theorem plusS_nil (S : Nat → Bool) : plusS S [] = S := by
  funext i
  simp [plusS]
theorem plusS_more {S : Nat → Bool} {l : List Nat} {k c : Nat} (h : l[k]? = some c) : upd (plusS S (l.take k)) c true = plusS S (l.take (k + 1)) := by
  funext i
  rw [List.take_add_one, h]
  simp only [upd, plusS]
  by_cases e : i = c
  · subst e
    simp
  · rw [if_neg e]
    simp [e]

set_option maxHeartbeats 1000000 in
theorem plus_any (S : Nat → Bool) (s : ByteArray) (w : World) (hs : s.size ≤ 1000000000000) :
    Calls Tryd.prog 32 #[.agg (setK S), .string s] w fun e w' => e = .returned (.agg (setK (plusS S (bs s)))) ∧ Below w.heap.size w w' := by
  go_enter Tryd.func32, Tryd.ntmps32
  go_wp2_with fail
  go_loopw [8] (fun s8 wr => ∃ k : Nat, s8 = .int .i64 k ∧ k ≤ s.size ∧ Blk wr w.heap.size 63 (setK (plusS S ((bs s).take k))) ∧ Blk wr (w.heap.size + 1) 63 (setK G.none') ∧ Below w.heap.size w wr) (fun s8 _ => s.size - (intOf s8).toNat)
  case atStart =>
    refine ⟨0, rfl, by omega, ?_, ?_, ((Below.refl _ _).alloc (Nat.le_refl _) _).alloc (by simp) _⟩
    · rw [List.take_zero, plusS_nil]
      exact (Blk.new w _ _).alloc _
    · rw [← zero_setK]
      exact Blk.new_ (w.alloc _) _ _ (by simp)
  case round =>
    obtain ⟨k, rfl, hk, h1, h2, hb⟩ := hrel
    by_cases hks : k < s.size
    · have hpk := get_bs s k hks
      have hlt := (s[k]'hks).toNat_lt
      have c0 := (h1.cell (s[k]'hks).toNat).trans (setK_get _ _ (by omega))
      have f0 := h1.frozen (s[k]'hks).toNat
      have i0 : ((s[k]'hks).toNat : Int) < 256 := by omega
      have hB : Blk (wr.setCell ⟨w.heap.size, (s[k]'hks).toNat, none⟩ (.bool true)) w.heap.size 63 (setK (plusS S ((bs s).take (k + 1)))) := by
        have := h1.store (s[k]'hks).toNat (.bool true)
        rw [setK_upd, plusS_more hpk] at this
        exact this
      have hZ : Blk (wr.setCell ⟨w.heap.size, (s[k]'hks).toNat, none⟩ (.bool true)) (w.heap.size + 1) 63 (setK G.none') := h2.other (by simp) _
      have hb2 : Below w.heap.size w (wr.setCell ⟨w.heap.size, (s[k]'hks).toNat, none⟩ (.bool true)) := hb.setCell (by simp) _
      have hB' := Lib.hid hB; clear hB h1
      have hZ' := Lib.hid hZ; clear hZ h2
      have hb2' := Lib.hid hb2; clear hb2 hb hpk
      go_wp2_with fail
      go_roundw
      case rel => exact ⟨k + 1, by go_num, by omega, hB'.out, hZ'.out, hb2'.out⟩
      case measure => simp [intOf]; omega
    · obtain rfl : k = s.size := by omega
      rw [List.take_of_length_le (by rw [length_bs]; exact Nat.le_refl _)] at h1
      have h1' := Lib.hid h1; clear h1
      have h2' := Lib.hid h2; clear h2
      have hb' := Lib.hid hb; clear hb
      go_wp2_with (first
        | (refine wpList_load_row rfl 63 (.tmp 2) rfl w.heap.size rfl 63 _ (0, 0) _ h1'.out Tryd.underlying63 rfl (sizeSetK _) ?_)
        | (refine wpList_store_row rfl 63 (.tmp 4) (.tmp 16) rfl (w.heap.size + 1) _ rfl rfl 63 _ h2'.out (sizeSetK _) (by rw [size_setK, size_setK]) (one_setK _) ?_))
      refine bodyPost_ret (results_cell_row rfl _ _ (w.heap.size + 1) 63 _ (0, 0) _ rfl (h2'.out.row _) Tryd.underlying63 rfl (sizeSetK _)) rfl ⟨rfl, below_row hb'.out (by omega) _⟩

set_option maxHeartbeats 1000000 in
theorem has_any (S : Nat → Bool) (s : ByteArray) (w : World) (hs : s.size ≤ 1000000000000) :
    Calls Tryd.prog 33 #[.agg (setK S), .string s] w fun e w' => e = .returned (.bool ((bs s).all S)) ∧ Below w.heap.size w w' := by
  go_enter Tryd.func33, Tryd.ntmps33
  go_wp2_with fail
  go_loopw [8] (fun s8 wr => ∃ k : Nat, s8 = .int .i64 k ∧ k ≤ s.size ∧ Hid (((bs s).take k).all S = true) ∧ Blk wr w.heap.size 63 (setK S) ∧ Below w.heap.size w wr) (fun s8 _ => s.size - (intOf s8).toNat)
  case atStart =>
    refine ⟨0, rfl, by omega, by simp [Hid], ?_, (Below.refl _ _).alloc (Nat.le_refl _) _⟩
    exact Blk.new w _ _
  case round =>
    obtain ⟨k, rfl, hk, ha, h1, hb⟩ := hrel
    by_cases hks : k < s.size
    · have hpk := get_bs s k hks
      have hlt := (s[k]'hks).toNat_lt
      have c0 := (h1.cell (s[k]'hks).toNat).trans (setK_get _ _ (by omega))
      have i0 : ((s[k]'hks).toNat : Int) < 256 := by omega
      have hno : S (s[k]'hks).toNat = false → (bs s).all S = false := fun h => by
        rw [List.all_eq_false]
        exact ⟨_, List.mem_of_getElem? hpk, by simp [h]⟩
      have hyes : S (s[k]'hks).toNat = true → ((bs s).take (k + 1)).all S = true := fun h => by
        rw [List.take_add_one, hpk, List.all_append, ha.out]
        simp [h]
      have hno' := Lib.hid hno; clear hno
      have hyes' := Lib.hid hyes; clear hyes hpk
      have h1' := Lib.hid h1; clear h1
      have hb' := Lib.hid hb; clear hb
      obtain ⟨b, hb0⟩ : ∃ b, S (s[k]'hks).toNat = b := ⟨_, rfl⟩
      rw [hb0] at c0
      have hb0' := Lib.hid hb0; clear hb0
      cases b with
      | false =>
        have hfin := hno'.out hb0'.out
        have hfin' := Lib.hid hfin; clear hfin hno' hyes'
        go_wp2_with fail
        go_ret
        exact ⟨by rw [hfin'.out]; rfl, hb'.out⟩
      | true =>
        have hfin := hyes'.out hb0'.out
        have hfin' := Lib.hid hfin; clear hfin hno' hyes'
        go_wp2_with fail
        go_roundw
        case rel => exact ⟨k + 1, by go_num, by omega, hfin'.out, h1'.out, hb'.out⟩
        case measure => simp [intOf]; omega
    · obtain rfl : k = s.size := by omega
      have hall : (bs s).all S = true := by
        have := ha.out
        rwa [List.take_of_length_le (by rw [length_bs]; exact Nat.le_refl _)] at this
      have hall' := Lib.hid hall; clear hall ha h1
      have hb' := Lib.hid hb; clear hb
      go_wp2_with fail
      go_ret
      exact ⟨by rw [hall'.out]; rfl, hb'.out⟩

end Go.Proofs.YtgjnohkcnfdmkaaDoor
