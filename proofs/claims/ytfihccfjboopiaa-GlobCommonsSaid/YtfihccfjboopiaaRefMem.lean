/-
  The reference's sets and elements as memory cells.
-/
import Derived.Test.YtfihccfjboopiaaGlobMem
namespace Go.Proofs.Ytfihccfjboopiaa
open Go.RowKit

def setR (s : Nat → Bool) : Array Value := Array.ofFn (n := 128) fun i => .bool (s i.val)
theorem setR_get (s : Nat → Bool) (k : Nat) (h : k < 128) : (setR s)[k]? = some (.bool (s k)) := by
  simp [setR, h]
theorem size_setR (s : Nat → Bool) : (setR s).size = 128 := by simp [setR]
theorem one_setR (s : Nat → Bool) : (setR s).all (·.oneCell') = true := by
  rw [Array.all_eq_true_iff_forall_mem]
  intro v hv
  simp only [setR, Array.mem_ofFn] at hv
  obtain ⟨i, rfl⟩ := hv
  rfl
theorem setR_upd (s : Nat → Bool) (k : Nat) (b : Bool) : (setR s).setIfInBounds k (.bool b) = setR (upd s k b) := by
  unfold setR
  apply Array.ext
  · simp
  · intro i h1 h2
    rw [Array.getElem_setIfInBounds (by simpa using h1)]
    simp only [Array.getElem_ofFn, upd]
    by_cases h : k = i
    · simp [h]
    · rw [if_neg h, if_neg (fun e => h e.symm)]
theorem setR_congr {s s' : Nat → Bool} (h : ∀ i, i < 128 → s i = s' i) : setR s = setR s' := by
  unfold setR
  apply Array.ext
  · simp
  · intro i h1 h2
    simp only [Array.getElem_ofFn]
    rw [h i (by simpa using h1)]
theorem zero_setR : Try.zeroCells127 = setR G.none' := by kernel_rfl

/-- An element's cells: star, literal, set. -/
def elR (star lit : Bool) (s : Nat → Bool) : Array Value := #[.bool star, .bool lit] ++ setR s
theorem size_elR (star lit : Bool) (s : Nat → Bool) : (elR star lit s).size = 130 := by simp [elR, size_setR]
theorem zero_elR : Try.zeroCells129 = elR false false G.none' := by kernel_rfl
theorem elR_star (star lit : Bool) (s : Nat → Bool) : (elR star lit s)[0]? = some (.bool star) := by simp [elR, Array.getElem?_append]
theorem elR_lit (star lit : Bool) (s : Nat → Bool) : (elR star lit s)[1]? = some (.bool lit) := by simp [elR, Array.getElem?_append]
theorem elR_set (star lit : Bool) (s : Nat → Bool) (k : Nat) (h : k < 128) : (elR star lit s)[2 + k]? = some (.bool (s k)) := by
  unfold elR
  rw [Array.getElem?_append_right (by simp)]
  simp [setR_get _ _ h]
theorem one_elR (star lit : Bool) (s : Nat → Bool) : (elR star lit s).all (·.oneCell') = true := by
  simp only [elR, Array.all_append, one_setR, Bool.and_true]
  simp [Value.oneCell']
theorem elR_upd (star lit : Bool) (s : Nat → Bool) (k : Nat) (v : Bool) : (elR star lit s).setIfInBounds (2 + k) (.bool v) = elR star lit (upd s k v) := by
  have hx : (elR star lit (upd s k v)) = #[.bool star, .bool lit] ++ (setR s).setIfInBounds k (.bool v) := by rw [setR_upd]; rfl
  rw [hx]
  unfold elR
  apply Array.ext_getElem?
  intro i
  rw [Array.getElem?_setIfInBounds, Array.getElem?_append, Array.getElem?_append]
  have hz : (#[Value.bool star, Value.bool lit] : Array Value).size = 2 := rfl
  rw [hz, Array.size_append, hz, size_setR]
  by_cases h : 2 + k = i
  · subst h
    have a1 : ¬ 2 + k < 2 := by omega
    have a2 : (2 + k < 2 + 128) = (k < 128) := by
      rw [eq_iff_iff]; omega
    simp only [if_true, a1, if_false, Nat.add_sub_cancel_left, Array.getElem?_setIfInBounds, size_setR, a2]
  · rw [if_neg h]
    by_cases h2 : i < 2
    · rw [if_pos h2, if_pos h2]
    · rw [if_neg h2, if_neg h2, Array.getElem?_setIfInBounds, if_neg (by omega)]
theorem elR_setStar (star lit v : Bool) (s : Nat → Bool) : (elR star lit s).setIfInBounds 0 (.bool v) = elR v lit s := by
  unfold elR
  apply Array.ext_getElem?
  intro i
  rw [Array.getElem?_setIfInBounds, Array.getElem?_append, Array.getElem?_append]
  match i with
  | 0 => simp
  | 1 => simp
  | i + 2 => simp
theorem elR_setLit (star lit v : Bool) (s : Nat → Bool) : (elR star lit s).setIfInBounds 1 (.bool v) = elR star v s := by
  unfold elR
  apply Array.ext_getElem?
  intro i
  rw [Array.getElem?_setIfInBounds, Array.getElem?_append, Array.getElem?_append]
  match i with
  | 0 => simp
  | 1 => simp; omega
  | i + 2 => simp

end Go.Proofs.Ytfihccfjboopiaa
