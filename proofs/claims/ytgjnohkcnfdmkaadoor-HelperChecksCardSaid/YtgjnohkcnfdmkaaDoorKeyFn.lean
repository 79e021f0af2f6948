/-
  THE WALKS of name.Key and of the reference's Key.
-/
import Derived.Test.YtgjnohkcnfdmkaaDoorKeySet
import Derived.Test.YtgjnohkcnfdmkaaDoorGlobRows
namespace Go.Proofs.YtgjnohkcnfdmkaaDoor
open Go.RowKit

def upperA : ByteArray := ⟨#[65, 66, 67, 68, 69, 70, 71, 72, 73, 74, 75, 76, 77, 78, 79, 80, 81, 82, 83, 84, 85, 86, 87, 88, 89, 90]⟩
def digitsA : ByteArray := ⟨#[48, 49, 50, 51, 52, 53, 54, 55, 56, 57]⟩
def upS : Nat → Bool := plusS G.none' (bs upperA)
def keyB : Nat → Bool := plusS (plusS (plusS G.none' (bs upperA)) (bs digitsA)) (bs ⟨#[95]⟩)
/-- Whether a text is a key. -/
def keyS (l : List Nat) : Bool := !l.isEmpty && decide (l.length ≤ 32) && ((l.take 1).all upS && l.all keyB)
theorem run_buildK (W : World) : (Instr.build 63 #[]).run Tryd.prog W = .ok (.agg (setK G.none')) W := by kernel_rfl
theorem build_opK (ev : Operand → Value) (d : Option Tmp) (ty : TypeId) (pos : String) (after : Array Edge) (guard : Option (Nat × Bool)) (w : World) :
    Sem.run Tryd.prog (execOp ev ⟨d, .build 63 #[], ty, pos, after, guard⟩) w = .ok (.value (.agg (setK G.none'))) w := by
  unfold execOp
  simp only [List.map_toArray, List.map_nil, Sem.run_bind, run_buildK w, Result.andThen_ok]
  rfl
attribute [local go_sem ↓] build_opK
theorem built_setK : Tryd.prog.built 63 [] = some (setK G.none') := by kernel_rfl

theorem key_empty (w : World) : Calls Tryd.prog 17 #[.string ⟨#[]⟩] w fun e w' => e = .returned (.bool false) ∧ Below w.heap.size w w' := by
  go_enter Tryd.func17, Tryd.ntmps17
  go_wp2_with fail
  go_quiet (fail)
  go_wp2_with fail
  go_ret
  exact ⟨rfl, below_drewN (Below.refl _ _) _⟩

theorem bs_take1 (s : ByteArray) : bs (s.extract 0 1) = (bs s).take 1 := by
  unfold bs
  rw [ByteArray.data_extract, Array.toList_extract, List.map_take]
  simp
theorem lit_size (a : Array UInt8) (h : a.size ≤ 100) : (⟨a⟩ : ByteArray).size ≤ 1000000000000 := by show a.size ≤ _; omega
theorem list_ne (s : ByteArray) (h0 : 0 < s.size) : (s.toList == []) = false := by
  rw [beq_eq_false_iff_ne]
  intro h
  rw [ByteArray.toList_eq] at h
  have : s.data = #[] := Array.toList_inj.1 h
  have h2 : s.size = 0 := by show s.data.size = 0; rw [this]; rfl
  omega

set_option maxRecDepth 100000 in
set_option maxHeartbeats 1000000 in
theorem key_some (s : ByteArray) (w : World) (h0 : 0 < s.size) (h1 : s.size ≤ 32) : Calls Tryd.prog 17 #[.string s] w fun e w' => e = .returned (.bool (keyS (bs s))) ∧ Below w.heap.size w w' := by
  have e1 : (s.toList == []) = false := list_ne s h0
  have i1 : (1 : Int) ≤ (s.size : Int) := by omega
  have i2 : (s.size : Int) ≤ 32 := by omega
  have htk : bs (s.extract 0 1) = (bs s).take 1 := bs_take1 s
  have hne : (bs s).isEmpty = false := by
    cases h : bs s with
    | nil => have := length_bs s; rw [h] at this; simp at this; omega
    | cons a l => rfl
  have hk : keyS (bs s) = (((bs s).take 1).all upS && (bs s).all keyB) := by
    unfold keyS
    rw [hne, decide_eq_true (by rw [length_bs]; exact h1)]
    rfl
  rw [hk]
  obtain ⟨b1, hb1⟩ : ∃ b, ((bs s).take 1).all upS = b := ⟨_, rfl⟩
  rw [hb1]
  have hq1 : (bs (s.extract 0 1)).all (plusS G.none' (bs ⟨#[65, 66, 67, 68, 69, 70, 71, 72, 73, 74, 75, 76, 77, 78, 79, 80, 81, 82, 83, 84, 85, 86, 87, 88, 89, 90]⟩)) = b1 := by rw [htk]; exact hb1
  have hEH := fun (S : Nat → Bool) (t : ByteArray) W (h : t.size ≤ 1000000000000) => has_any S t W h
  have hs1 : (s.extract 0 1).size ≤ 1000000000000 := by rw [ByteArray.size_extract]; omega
  have hs2 : s.size ≤ 1000000000000 := by omega
  clear hk hne htk h0 hb1
  have hq1' := Lib.hid hq1; clear hq1
  have hEH' := Lib.hid hEH; clear hEH
  have hb0 : Below w.heap.size w w := Below.refl _ _
  obtain ⟨wo, hwo⟩ : ∃ y : World, y = w := ⟨_, rfl⟩
  have hbo : Below w.heap.size w wo := by rw [hwo]; exact Below.refl _ _
  rw [← hwo]
  suffices h : Calls Tryd.prog 17 #[.string s] wo fun e w' => e = .returned (.bool (b1 && (bs s).all keyB)) ∧ Below w.heap.size w w' from by
    refine h.mono fun e w' hh => ⟨hh.1, ?_⟩
    rw [hwo]; exact hh.2
  clear hwo hb0
  cases b1 with
  | false =>
    go_enter Tryd.func17, Tryd.ntmps17
    go_wp2_with fail
    (first | (go_region_held (fun w' => Below w.heap.size w w')
      ((first
        | assumption
        | exact Below.drew (by assumption)
        | exact Below.trans (by assumption) (hb.mono (Below.size (by assumption)))
        | exact Below.alloc (by assumption) (Below.size (by assumption)) _))
      (first | (go_at_call 32; refine (plus_any _ _ _ (lit_size _ (by decide))).mono ?_; rintro e w' ⟨rfl, hb⟩) | (go_at_call 33; refine (hEH'.out _ _ _ (by assumption)).mono ?_; rintro e w' ⟨he, hb⟩; (first | rw [hq1'.out] at he | skip); subst he) | fail)) | fail)
    all_goals go_wp2_with fail
    all_goals go_ret
    all_goals exact ⟨rfl, by assumption⟩
  | true =>
    go_enter Tryd.func17, Tryd.ntmps17
    go_wp2_with fail
    (first | (go_region_held (fun w' => Below w.heap.size w w')
      ((first
        | assumption
        | exact Below.drew (by assumption)
        | exact Below.trans (by assumption) (hb.mono (Below.size (by assumption)))
        | exact Below.alloc (by assumption) (Below.size (by assumption)) _))
      (first | (go_at_call 32; refine (plus_any _ _ _ (lit_size _ (by decide))).mono ?_; rintro e w' ⟨rfl, hb⟩) | (go_at_call 33; refine (hEH'.out _ _ _ (by assumption)).mono ?_; rintro e w' ⟨he, hb⟩; (first | rw [hq1'.out] at he | skip); subst he) | fail)) | fail)
    all_goals go_wp2_with fail
    all_goals go_ret
    all_goals exact ⟨rfl, by assumption⟩

set_option maxHeartbeats 1000000 in
theorem key_long (s : ByteArray) (w : World) (h0 : 0 < s.size) (h1 : ¬ s.size ≤ 32) : Calls Tryd.prog 17 #[.string s] w fun e w' => e = .returned (.bool false) ∧ Below w.heap.size w w' := by
  have i2 : decide ((s.size : Int) ≤ 32) = false := decide_eq_false (by omega)
  have e1 : (s.toList == []) = false := list_ne s h0
  obtain ⟨wo, hwo⟩ : ∃ y : World, y = w := ⟨_, rfl⟩
  have hbo : Below w.heap.size w wo := by rw [hwo]; exact Below.refl _ _
  rw [← hwo]
  suffices h : Calls Tryd.prog 17 #[.string s] wo fun e w' => e = .returned (.bool false) ∧ Below w.heap.size w w' from by
    refine h.mono fun e w' hh => ⟨hh.1, ?_⟩
    rw [hwo]; exact hh.2
  clear hwo
  go_enter Tryd.func17, Tryd.ntmps17
  go_wp2_with fail
  go_quiet (fail)
  go_wp2_with fail
  go_ret
  exact ⟨rfl, below_drawN hbo _⟩

theorem key_any (s : ByteArray) (w : World) : Calls Tryd.prog 17 #[.string s] w fun e w' => e = .returned (.bool (keyS (bs s))) ∧ Below w.heap.size w w' := by
  by_cases h0 : 0 < s.size
  · by_cases h1 : s.size ≤ 32
    · exact key_some s w h0 h1
    · have he : keyS (bs s) = false := by
        unfold keyS
        rw [length_bs, decide_eq_false h1]
        simp
      rw [he]
      exact key_long s w h0 h1
  · have : s = ⟨#[]⟩ := by
      have h : s.data = #[] := Array.eq_empty_of_size_eq_zero (by show s.size = 0; omega)
      cases s
      simp only at h
      rw [h]
    subst this
    exact key_empty w

end Go.Proofs.YtgjnohkcnfdmkaaDoor
