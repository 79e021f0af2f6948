/-
  WHAT THE LAWS OF THE MATCH CHAPTER WANT: rows away from the tape.
-/
import Derived.Test.YtinjeijjfkkhbaaGreatDoorMakeBase
import Derived.Test.YtinjeijjfkkhbaaGreatDoorMatchDraft
import Derived.Test.YtinjeijjfkkhbaaGreatDoorMatchDevice
namespace Go.Proofs.YtinjeijjfkkhbaaGreatDoor
open Go.RowKit

/-- A slice that does not lie in block g. -/
def Off (g : Nat) (v : Value) : Prop := ∀ b o n c, v = .slice (some ⟨b, o, none⟩) n c → b ≠ g
theorem RowAt.only {w w' : World} {v : Value} {sz g : Nat} {l : List (List Value)} (h : RowAt w v sz l) (ho : Only (fun j => j = g) w w') (hg : Off g v) : RowAt w' v sz l := by
  refine ⟨h.1, ?_⟩
  rcases h.2 with h | ⟨b, o, cap, rfl, hb, hc⟩
  · exact .inl h
  · exact .inr ⟨b, o, cap, rfl, by have := ho.size; omega, fun k xs hx j u hu => (World.cell?_of_block (ho.block b hb (hg b o _ cap rfl))).trans (hc k xs hx j u hu)⟩
def DftOff (g : Nat) (x : Dft) : Prop := Off g x.pv ∧ Off g x.tv
theorem DftAt.only {w w' : World} {x : Dft} {g : Nat} (h : DftAt w x) (ho : Only (fun j => j = g) w w') (hg : DftOff g x) : DftAt w' x := ⟨h.1.only ho hg.1, h.2.only ho hg.2⟩
def DevOff (g : Nat) (d : Dev) : Prop := Off g d.atv
theorem DevAt.only {w w' : World} {d : Dev} {g : Nat} (h : DevAt w d) (ho : Only (fun j => j = g) w w') (hg : DevOff g d) : DevAt w' d := RowAt.only h ho hg
theorem off_nil (g n c : Nat) : Off g (.slice none n c) := fun b o n' c' e => by cases e
theorem off_some {g b o n c : Nat} (h : b ≠ g) : Off g (.slice (some ⟨b, o, none⟩) n c) := fun b' o' n' c' e => by cases e; exact h
/-- A row of one's own (above B) as a row to be read. -/
theorem row_own {w : World} {B t sz : Nat} {v : Value} {cs : List Value} {l : List (List Value)} (h : w.ownsRow B t sz v l.length cs) (hl : l.flatten = cs) (hs : ∀ x ∈ l, x.length = sz) (_hz : 1 ≤ sz) (h9 : l.length ≤ 9223372036854775807) : RowAt w v sz l := by
  refine ⟨h9, ?_⟩
  rcases h.2 with ⟨rfl, h0⟩ | ⟨g, cap, cur, rfl, _, hg, _⟩
  · exact .inl ⟨rfl, List.eq_nil_of_length_eq_zero h0⟩
  · refine .inr ⟨g, 0, cap, rfl, (Array.getElem?_eq_some_iff.1 hg).1, fun k xs hx j u hu => ?_⟩
    have hk : k < l.length := (List.getElem?_eq_some_iff.1 hx).1
    have hj : j < sz := by
      have := hs xs (List.mem_of_getElem? hx)
      have := (List.getElem?_eq_some_iff.1 hu).1
      omega
    rw [Nat.zero_add]
    refine (World.ownsRow.cellAt h _ ?_).trans ?_
    · have : k * sz + sz ≤ l.length * sz := by
        have := Nat.mul_le_mul_right sz (show k + 1 ≤ l.length by omega)
        rw [Nat.add_mul, Nat.one_mul] at this
        exact this
      omega
    · rw [← hl]
      exact rows_at l hs k xs hx j u hu
theorem off_own {w : World} {B t sz n g : Nat} {v : Value} {cs : List Value} (h : w.ownsRow B t sz v n cs) (hg : g < B) : Off g v := by
  rcases h.2 with ⟨rfl, _⟩ | ⟨b, cap, cur, rfl, hB, _⟩
  · exact off_nil _ _ _
  · exact off_some (by omega)

end Go.Proofs.YtinjeijjfkkhbaaGreatDoor
