/-
  WHERE A LIST MEETS A TEST FIRST: -1 if nowhere (plain).
-/
import Derived.Test.YtfihccfjboopiaaTreeFind
namespace Go.Proofs.Ytfihccfjboopiaa

def idxB {α : Type} (p : α → Bool) (l : List α) : Int := match l.findIdx? p with
  | some k => k
  | none => -1
theorem idxB_none {α : Type} {p : α → Bool} {l : List α} (h : ∀ x ∈ l, p x = false) : idxB p l = -1 := by
  unfold idxB
  rw [List.findIdx?_eq_none_iff.2 fun x hx => by simp [h x hx]]
theorem idxB_some {α : Type} {p : α → Bool} {l : List α} {k : Nat} {d : α} (hk : l[k]? = some d) (hb : ∀ j x, j < k → l[j]? = some x → p x = false) (hh : p d = true) : idxB p l = k := by
  unfold idxB
  have hlt : k < l.length := (List.getElem?_eq_some_iff.1 hk).1
  have he : l[k] = d := (List.getElem?_eq_some_iff.1 hk).2
  have : l.findIdx? p = some k := by
    rw [List.findIdx?_eq_some_iff_getElem]
    refine ⟨hlt, by rw [he]; simp [hh], fun j hj => ?_⟩
    have := hb j _ hj (List.getElem?_eq_getElem (by omega))
    simp [this]
  rw [this]
theorem idxB_any {α : Type} (p : α → Bool) (l : List α) : ∃ i : Int, idxB p l = i ∧ decide (i ≥ 0) = l.any p := by
  refine ⟨_, rfl, ?_⟩
  unfold idxB
  cases h : l.findIdx? p with
  | none =>
    have : l.any p = false := by
      rw [List.any_eq_false]
      intro x hx
      have := List.findIdx?_eq_none_iff.1 h x hx
      simp [this]
    rw [this]
    rfl
  | some k =>
    obtain ⟨hlt, h1, _⟩ := List.findIdx?_eq_some_iff_getElem.1 h
    have : l.any p = true := List.any_eq_true.2 ⟨_, List.getElem_mem hlt, h1⟩
    rw [this]
    simp

end Go.Proofs.Ytfihccfjboopiaa
