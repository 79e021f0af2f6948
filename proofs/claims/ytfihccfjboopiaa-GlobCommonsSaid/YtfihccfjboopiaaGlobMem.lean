/-
  HOW THE PACKAGE glob KEEPS ITS SETS AND ELEMENTS IN MEMORY; what their types' rows say.
-/
import Derived.Test.YtfihccfjboopiaaRows
import Derived.Test.YtfihccfjboopiaaMem
import Derived.Test.YtfihccfjboopiaaGlobMatch
namespace Go.Proofs.Ytfihccfjboopiaa
open Go.RowKit

/-- 127 bools. -/
def setArr (s : Nat → Bool) : Array Value := Array.ofFn (n := 127) fun i => .bool (s i.val)
theorem setArr_get (s : Nat → Bool) (k : Nat) (h : k < 127) : (setArr s)[k]? = some (.bool (s k)) := by
  simp [setArr, h]
theorem size_setArr (s : Nat → Bool) : (setArr s).size = 127 := by simp [setArr]
theorem one_setArr (s : Nat → Bool) : (setArr s).all (·.oneCell') = true := by
  rw [Array.all_eq_true_iff_forall_mem]
  intro v hv
  simp only [setArr, Array.mem_ofFn] at hv
  obtain ⟨i, rfl⟩ := hv
  rfl
def upd (s : Nat → Bool) (k : Nat) (b : Bool) : Nat → Bool := fun i => if i = k then b else s i
theorem setArr_upd (s : Nat → Bool) (k : Nat) (b : Bool) : (setArr s).setIfInBounds k (.bool b) = setArr (upd s k b) := by
  unfold setArr
  apply Array.ext
  · simp
  · intro i h1 h2
    rw [Array.getElem_setIfInBounds (by simpa using h1)]
    simp only [Array.getElem_ofFn, upd]
    by_cases h : k = i
    · simp [h]
    · rw [if_neg h, if_neg (fun e => h e.symm)]
theorem setArr_congr {s s' : Nat → Bool} (h : ∀ i, i < 127 → s i = s' i) : setArr s = setArr s' := by
  unfold setArr
  apply Array.ext
  · simp
  · intro i h1 h2
    simp only [Array.getElem_ofFn]
    rw [h i (by simpa using h1)]
theorem zero_set : Try.zeroCells116 = setArr G.none' := by kernel_rfl
def prTo (k : Nat) : Nat → Bool := fun i => decide (32 ≤ i) && decide (i < k)
theorem prTo_upd (k : Nat) (h : 32 ≤ k) : upd (prTo k) k true = prTo (k + 1) := by
  funext i
  simp only [upd, prTo]
  by_cases e : i = k
  · subst e; simp; omega
  · rw [if_neg e]; congr 1; simp; omega
theorem prTo_32 : prTo 32 = G.none' := by
  funext i
  simp only [prTo, G.none']
  by_cases h : 32 ≤ i
  · have : ¬ i < 32 := by omega
    simp [this]
  · simp [h]
theorem prTo_127 : setArr (prTo 127) = setArr G.pr := setArr_congr fun i hi => by
  simp only [prTo, G.pr]
  rw [show decide (i < 127) = decide (i ≤ 126) from by simp <;> omega]

theorem sizeSet : (Try.prog.info? 116).map (·.size) = some 127 := by kernel_rfl
theorem sizeSet' (s : Nat → Bool) : (Try.prog.info? 116).map (·.size) = some (setArr s).size := by rw [size_setArr]; exact sizeSet

/-- An element's cells. -/
def elArr (x : G.El) : Array Value := #[.int .u8 x.lit, .bool x.star] ++ setArr x.set
theorem size_elArr (x : G.El) : (elArr x).size = 129 := by simp [elArr, size_setArr]
theorem sizeEl : (Try.prog.info? 118).map (·.size) = some 129 := by kernel_rfl
theorem sizeEl' (x : G.El) : (Try.prog.info? 118).map (·.size) = some (elArr x).size := by rw [size_elArr]; exact sizeEl
theorem elArr_lit (x : G.El) : (elArr x)[0]? = some (.int .u8 x.lit) := by simp [elArr, Array.getElem?_append]
theorem elArr_star (x : G.El) : (elArr x)[1]? = some (.bool x.star) := by simp [elArr, Array.getElem?_append]
theorem elArr_set (x : G.El) (k : Nat) (h : k < 127) : (elArr x)[2 + k]? = some (.bool (x.set k)) := by
  unfold elArr
  rw [Array.getElem?_append_right (by simp)]
  simp [setArr_get _ _ h]
theorem one_elArr (x : G.El) : (elArr x).all (·.oneCell') = true := by
  simp only [elArr, Array.all_append, one_setArr, Bool.and_true]
  simp [Value.oneCell']
theorem elArr_upd (x : G.El) (k : Nat) (v : Bool) : (elArr x).setIfInBounds (2 + k) (.bool v) = elArr { x with set := upd x.set k v } := by
  have hx : (elArr { x with set := upd x.set k v }) = #[.int .u8 x.lit, .bool x.star] ++ (setArr x.set).setIfInBounds k (.bool v) := by rw [setArr_upd]; rfl
  rw [hx]
  unfold elArr
  apply Array.ext_getElem?
  intro i
  rw [Array.getElem?_setIfInBounds, Array.getElem?_append, Array.getElem?_append]
  have hz : (#[Value.int .u8 x.lit, Value.bool x.star] : Array Value).size = 2 := rfl
  rw [hz, Array.size_append, hz, size_setArr]
  by_cases h : 2 + k = i
  · subst h
    have a1 : ¬ 2 + k < 2 := by omega
    have a2 : (2 + k < 2 + 127) = (k < 127) := by
      rw [eq_iff_iff]; omega
    simp only [if_true, a1, if_false, Nat.add_sub_cancel_left, Array.getElem?_setIfInBounds, size_setArr, a2]
  · rw [if_neg h]
    by_cases h2 : i < 2
    · rw [if_pos h2, if_pos h2]
    · rw [if_neg h2, if_neg h2, Array.getElem?_setIfInBounds, if_neg (by omega)]

/-! What the literals of these types build. -/
theorem built_set : Try.prog.built 116 [] = some (setArr G.none') := by kernel_rfl
theorem built_lit (b : Nat) : Try.prog.built 118 [(0, .int .u8 b)] = some (elArr ⟨b, false, G.none'⟩) := by kernel_rfl
theorem built_star (s : Nat → Bool) : Try.prog.built 118 [(1, .bool true), (2, .agg (setArr s))] = some (elArr ⟨0, true, s⟩) := by kernel_rfl
theorem built_sub (s : Nat → Bool) : Try.prog.built 118 [(2, .agg (setArr s))] = some (elArr ⟨0, false, s⟩) := by kernel_rfl

end Go.Proofs.Ytfihccfjboopiaa
