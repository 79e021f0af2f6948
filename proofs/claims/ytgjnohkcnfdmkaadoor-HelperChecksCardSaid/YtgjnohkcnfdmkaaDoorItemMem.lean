/-
  HOW THE PACKAGES helper AND coldplugref14 KEEP ATTRIBUTES IN MEMORY: slices of pairs of strings. And the items of an output.
-/
import Derived.Test.YtgjnohkcnfdmkaaDoorHelpP
import Derived.Test.YtgjnohkcnfdmkaaDoorKeyFn
namespace Go.Proofs.YtgjnohkcnfdmkaaDoor
open Go.RowKit

abbrev Att := ByteArray × ByteArray
def flatA : List Att → List Value
  | [] => []
  | x :: l => .string x.1 :: .string x.2 :: flatA l
theorem flatA_app (l m : List Att) : flatA (l ++ m) = flatA l ++ flatA m := by
  induction l with
  | nil => rfl
  | cons a l ih => simp [flatA, ih]
theorem length_flatA (l : List Att) : (flatA l).length = l.length * 2 := by
  induction l with
  | nil => rfl
  | cons a l ih => simp [flatA, ih]; omega
theorem flatA_get : ∀ (l : List Att) (k : Nat) (x : Att), l[k]? = some x → (flatA l)[k * 2]? = some (.string x.1) ∧ (flatA l)[k * 2 + 1]? = some (.string x.2)
  | [], k, x, h => by cases h
  | a :: l, 0, x, h => by
    simp at h
    subst h
    exact ⟨rfl, rfl⟩
  | a :: l, k + 1, x, h => by
    have := flatA_get l k x (by simpa using h)
    rw [show (k + 1) * 2 = k * 2 + 1 + 1 from by omega, show k * 2 + 1 + 1 + 1 = k * 2 + 1 + 1 + 1 from rfl]
    exact this
theorem one_flatA : ∀ (l : List Att), ∀ v ∈ flatA l, v.oneCell' = true
  | [], v, h => by cases h
  | a :: l, v, h => by
    rcases List.mem_cons.1 h with h | h
    · subst h; rfl
    · rcases List.mem_cons.1 h with h | h
      · subst h; rfl
      · exact one_flatA l v h

/-- A slice of attributes in memory, in the call's own blocks from B on. -/
def Attrs (w : World) (B : Nat) (v : Value) (l : List Att) : Prop := w.ownsRow B 46 2 v l.length (flatA l)

def keyF (x : ByteArray) : Bool := keyS (bs x)
def item (x : ByteArray) : Option Att := if keyF (cutK x) && decide (0 < (cutV x).size) then some (cutK x, cutV x) else none
def items (s : ByteArray) : List Att := (pieces s).filterMap item
theorem items_app (a b : ByteArray) : items (a ++ ⟨#[59]⟩ ++ b) = items a ++ items b := by
  unfold items
  rw [pieces_app, List.filterMap_append]
theorem items_good (s : ByteArray) (x : Att) (h : x ∈ items s) : keyF x.1 = true ∧ 0 < x.2.size := by
  unfold items at h
  rw [List.mem_filterMap] at h
  obtain ⟨p, _, hp⟩ := h
  unfold item at hp
  split at hp
  · rename_i hc
    simp only [Bool.and_eq_true, decide_eq_true_eq] at hc
    cases hp
    exact hc
  · cases hp
theorem items_len (s : ByteArray) : (items s).length ≤ s.size + 1 := by
  unfold items
  refine Nat.le_trans (List.length_filterMap_le _ _) ?_
  unfold pieces
  rw [Lib.splitB_all ⟨#[59]⟩ (by decide) 0 _ s rfl]
  have := Lib.countB_le ⟨#[59]⟩ (by decide) s.size s (Nat.le_refl _)
  omega

end Go.Proofs.YtgjnohkcnfdmkaaDoor
