/-
  HOW THE REFERENCE KEEPS ITS ALTERNATIVES IN MEMORY: slices of elements in a slice.
-/
import Derived.Test.YtinjeijjfkkhbaaGreatDoorRefSet
import Derived.Test.YtinjeijjfkkhbaaGreatDoorGlobParse
namespace Go.Proofs.YtinjeijjfkkhbaaGreatDoor
open Go.RowKit

/-- The reference's element for an element: a star has no set. -/
def elArrR (x : G.El) : Array Value := elR x.star (decide (x.lit ≠ 0)) (if x.star then G.none' else x.set)
theorem size_elArrR (x : G.El) : (elArrR x).size = 130 := size_elR _ _ _
theorem one_elArrR (x : G.El) : (elArrR x).all (·.oneCell') = true := one_elR _ _ _
theorem sizeElR : (Tryz.prog.info? 134).map (·.size) = some 130 := by kernel_rfl

/-- An element's cells as a list; the cells of a list of elements. -/
def elLR (x : G.El) : List Value := (elArrR x).toList
theorem length_elLR (x : G.El) : (elLR x).length = 130 := by simp [elLR, size_elArrR]
theorem elLR_arr (x : G.El) : (elLR x).toArray = elArrR x := by simp [elLR]
theorem one_elLR (x : G.El) : ∀ v ∈ elLR x, v.oneCell' = true := by
  intro v hv
  have := one_elArrR x
  rw [Array.all_eq_true_iff_forall_mem] at this
  exact this v (by simpa [elLR] using hv)
def flatR : List G.El → List Value
  | [] => []
  | x :: l => elLR x ++ flatR l
theorem flatR_app (l : List G.El) (x : G.El) : flatR (l ++ [x]) = flatR l ++ elLR x := by
  induction l with
  | nil => simp [flatR]
  | cons a l ih => simp [flatR, ih]
theorem flatR_get : ∀ (l : List G.El) (k i : Nat) (x : G.El), l[k]? = some x → i < 130 → (flatR l)[k * 130 + i]? = (elLR x)[i]?
  | [], k, i, x, h, _ => by cases h
  | a :: l, 0, i, x, h, hi => by
    simp at h
    subst h
    rw [flatR, List.getElem?_append_left (by rw [length_elLR]; omega)]
    simp
  | a :: l, k + 1, i, x, h, hi => by
    rw [flatR, List.getElem?_append_right (by rw [length_elLR]; omega), length_elLR]
    have := flatR_get l k i x (by simpa using h) hi
    rw [show (k + 1) * 130 + i - 130 = k * 130 + i from by omega]
    exact this

/-- A value that is a slice of these elements, in memory from block B on. -/
def RowR (w : World) (B : Nat) (v : Value) (l : List G.El) : Prop := w.ownsRow B 134 130 v l.length (flatR l)

/-- The alternatives of a pattern, in memory from block B on: to be read. -/
def AltsR (w : World) (B : Nat) (v : Value) (l : List (List G.El)) : Prop :=
  ∃ vs : List Value, w.ownsRow B 124 1 v l.length vs ∧ ∀ (i : Nat) (a : List G.El), l[i]? = some a → ∃ u, vs[i]? = some u ∧ RowR w B u a

/-- The alternatives that are being read: the last one may still grow. -/
def AccInR (w : World) (B : Nat) (v : Value) (acc : List (List G.El)) : Prop :=
  ∃ (init : List (List G.El)) (last : List G.El) (vi : List Value) (vl : Value) (B1 : Nat), acc = init ++ [last] ∧ w.ownsRow B 124 1 v acc.length (vi ++ [vl]) ∧ vi.length = init.length ∧
    (∀ (i : Nat) (a : List G.El), init[i]? = some a → ∃ u, vi[i]? = some u ∧ RowR w B u a ∧ ∀ g, u.ownBlock = some g → g < B1) ∧ B ≤ B1 ∧ B1 ≤ w.heap.size ∧ RowR w B1 vl last

theorem AccInR.alts {w : World} {B : Nat} {v : Value} {acc : List (List G.El)} (h : AccInR w B v acc) : AltsR w B v acc := by
  obtain ⟨init, last, vi, vl, B1, rfl, h1, h2, h3, h4, _, h5⟩ := h
  refine ⟨_, h1, fun i a hi => ?_⟩
  rcases Nat.lt_or_ge i init.length with hl | hl
  · rw [List.getElem?_append_left hl] at hi
    obtain ⟨u, hu, hr, _⟩ := h3 i a hi
    exact ⟨u, by rw [List.getElem?_append_left (by omega)]; exact hu, hr⟩
  · rw [List.getElem?_append_right hl] at hi
    have : i - init.length = 0 := by
      rcases Nat.eq_zero_or_pos (i - init.length) with h0 | h0
      · exact h0
      · rw [List.getElem?_eq_none (by simp; omega)] at hi; cases hi
    rw [this] at hi
    simp at hi
    subst hi
    refine ⟨vl, ?_, own_mono h5 h4⟩
    rw [List.getElem?_append_right (by omega), h2, this]
    rfl
theorem AccInR.only {S : Nat → Prop} {w w' : World} {B : Nat} {v : Value} {acc : List (List G.El)} (h : AccInR w B v acc) (ho : Only S w w') (hS : ∀ k, S k → k < B) : AccInR w' B v acc := by
  obtain ⟨init, last, vi, vl, B1, rfl, h1, h2, h3, h4, h4', h5⟩ := h
  have hn : ∀ {B' : Nat} {e : TypeId} {size n : Nat} {u : Value} {xs : List Value}, B ≤ B' → w.ownsRow B' e size u n xs → ∀ g, u.ownBlock = some g → ¬ S g := fun hB hu g hg hs => by
    have := (hu.lt g hg).1
    have := hS g hs
    omega
  exact ⟨init, last, vi, vl, B1, rfl, own_only h1 ho (hn (Nat.le_refl _) h1), h2, fun i a hi => by
    obtain ⟨u, hu, hr, hg⟩ := h3 i a hi
    exact ⟨u, hu, own_only hr ho (hn (Nat.le_refl _) hr), hg⟩, h4, Nat.le_trans h4' ho.size, own_only h5 ho (hn h4 h5)⟩
/-- A later world: only the reader's block and what is newer has turned. -/
theorem AccInR.later {w w' : World} {B rb : Nat} {v : Value} {acc : List (List G.El)} (h : AccInR w B v acc) (ho : Only (fun k => k = rb ∨ w.heap.size ≤ k) w w') (hrb : rb < B) : AccInR w' B v acc := by
  obtain ⟨init, last, vi, vl, B1, rfl, h1, h2, h3, h4, h4', h5⟩ := h
  have hn : ∀ {B' : Nat} {e : TypeId} {size n : Nat} {u : Value} {xs : List Value}, B ≤ B' → w.ownsRow B' e size u n xs → ∀ g, u.ownBlock = some g → ¬ (g = rb ∨ w.heap.size ≤ g) := fun hB hu g hg hs => by
    have := hu.lt g hg
    omega
  exact ⟨init, last, vi, vl, B1, rfl, own_only h1 ho (hn (Nat.le_refl _) h1), h2, fun i a hi => by
    obtain ⟨u, hu, hr, hg⟩ := h3 i a hi
    exact ⟨u, hu, own_only hr ho (hn (Nat.le_refl _) hr), hg⟩, h4, Nat.le_trans h4' ho.size, own_only h5 ho (hn h4 h5)⟩
theorem AltsR.only {S : Nat → Prop} {w w' : World} {B : Nat} {v : Value} {l : List (List G.El)} (h : AltsR w B v l) (ho : Only S w w') (hS : ∀ k, S k → k < B) : AltsR w' B v l := by
  obtain ⟨vs, h1, h2⟩ := h
  have hn : ∀ {e : TypeId} {size n : Nat} {u : Value} {xs : List Value}, w.ownsRow B e size u n xs → ∀ g, u.ownBlock = some g → ¬ S g := fun hu g hg hs => by
    have := (hu.lt g hg).1
    have := hS g hs
    omega
  exact ⟨vs, own_only h1 ho (hn h1), fun i a hi => by
    obtain ⟨u, hu, hr⟩ := h2 i a hi
    exact ⟨u, hu, own_only hr ho (hn hr)⟩⟩
theorem AccInR.outer {w : World} {B : Nat} {v : Value} {acc : List (List G.El)} (h : AccInR w B v acc) : ∃ vs, w.ownsRow B 124 1 v acc.length vs := by
  obtain ⟨init, last, vi, vl, B1, rfl, h1, _⟩ := h
  exact ⟨_, h1⟩

/-- Behind 'l = append(l, nil)'. -/
theorem AccInR.bar {w w' : World} {B : Nat} {v v' : Value} {acc : List (List G.El)} (h : AccInR w B v acc) {vs : List Value} (hvs : w.ownsRow B 124 1 v acc.length vs) (hown' : w'.ownsRow B 124 1 v' (acc.length + 1) (vs ++ [.slice none 0 0])) (hg : w.grownBy w' v.ownBlock) :
    AccInR w' B v' (acc ++ [[]]) := by
  have hown : ∀ xs : List Value, w.ownsRow B 124 1 v acc.length xs → w'.ownsRow B 124 1 v' (acc.length + 1) (xs ++ [.slice none 0 0]) := fun xs hx => by rw [own_unique hx hvs]; exact hown'
  clear hown' hvs
  obtain ⟨init, last, vi, vl, B1, rfl, h1, h2, h3, h4, h4', h5⟩ := h
  have ho := only_grown hg
  have ne : (134 : Nat) ≠ 124 := by decide
  refine ⟨init ++ [last], [], vi ++ [vl], .slice none 0 0, w'.heap.size, rfl, by simpa using hown _ h1, by simp [h2], fun i a hi => ?_, Nat.le_trans (Nat.le_trans h4 h4') hg.size, Nat.le_refl _, World.ownsRow_nil _ _ _ _⟩
  rcases Nat.lt_or_ge i init.length with hl | hl
  · rw [List.getElem?_append_left hl] at hi
    obtain ⟨u, hu, hr, hb⟩ := h3 i a hi
    exact ⟨u, by rw [List.getElem?_append_left (by omega)]; exact hu, own_only hr ho (fun g hg' e => own_ne hr h1 ne g hg' e), fun g hg' => by have := hb g hg'; have := hg.size; omega⟩
  · rw [List.getElem?_append_right hl] at hi
    have h0 : i - init.length = 0 := by
      rcases Nat.eq_zero_or_pos (i - init.length) with h0 | h0
      · exact h0
      · rw [List.getElem?_eq_none (by simp; omega)] at hi; cases hi
    rw [h0] at hi
    simp at hi
    subst hi
    refine ⟨vl, by rw [List.getElem?_append_right (by omega), h2, h0]; rfl, own_only (own_mono h5 h4) ho (fun g hg' e => own_ne h5 h1 ne g hg' e), fun g hg' => ?_⟩
    have := (h5.lt g hg').2
    have := hg.size
    omega

/-! A WHOLE ELEMENT READ IN A REGION THAT DRAWS ITS ORDER: its cells as a function of the world. -/
theorem load_elR (g : Nat) (w : World) (h : full w g 130 = true) : (Instr.loadAt 134 (.pointer (some ⟨g, 0, none⟩))).run Tryz.prog w = .ok (.agg (cellsAt w g 130)) w := by
  have := run_loadAt_mid (P := Tryz.prog) w g 0 134 (cellsAt w g 130).toList _ (range_cells h) Tryz.underlying134 rfl (by
    have : (cellsAt w g 130).toList.length = 130 := (Array.length_toList).trans (size_cellsAt w g 130)
    rw [this]; exact sizeElR)
  rwa [Array.toArray_toList] at this

/-! THE SAME TWO STEPS AT THE LEVEL OF THE WHOLE OPERATION, for the walk inside a region that draws its order. -/
def loadRowR (v : Value) (w : World) (els : Result Next) : Result Next := match v with
  | .pointer (some ⟨g, 0, none⟩) => if full w g 130 = true then .ok (.value (.agg (cellsAt w g 130))) w else els
  | _ => els
theorem loadRowR_ptr (g : Nat) (w : World) (els : Result Next) : loadRowR (.pointer (some ⟨g, 0, none⟩)) w els = if full w g 130 = true then .ok (.value (.agg (cellsAt w g 130))) w else els := rfl
theorem load_opR (ev : Operand → Value) (d : Option Tmp) (x : Operand) (ty : TypeId) (pos : String) (after : Array Edge) (guard : Option (Nat × Bool)) (w : World) :
    Sem.run Tryz.prog (execOp ev ⟨d, .load 134 x, ty, pos, after, guard⟩) w = loadRowR (ev x) w (thatRun Tryz.prog ev ⟨d, .load 134 x, ty, pos, after, guard⟩ w) := by
  unfold loadRowR
  split
  · rename_i g he
    split
    · rename_i h
      unfold execOp
      simp only [he, Sem.run_bind, load_elR g w h, Result.andThen_ok]
      rfl
    · rfl
  · rfl

theorem info_elR : (Tryz.prog.info? 134).map (fun i => (i.zero, i.size, i.bytes)) = some (some (.agg (elArrR ⟨0, false, G.none'⟩)), 130, 130) := by kernel_rfl
theorem run_oneR (cs : Array Value) (h : cs.size = 130) (W : World) : (Instr.buildSlice 124 1 #[(0, .agg cs)]).run Tryz.prog W = .ok (.slice (some ⟨W.heap.size, 0, none⟩) 1 1) (W.alloc (.cells cs 134)) := by
  obtain ⟨i0, hi0, hz0, hz1, hz2⟩ := info_parts info_elR
  refine run_buildSlice W _ _ 1 _ cs i0 _ Tryz.underlying124 hi0 hz0 (by rw [hz1]; omega) (by rw [hz1]; omega) ?_
  rw [hz1]
  exact fill_one _ _ _ (by simp) h
def oneRowR (v : Value) (w : World) (els : Result Next) : Result Next := match v with
  | .agg cs => if cs.size = 130 then .ok (.value (.slice (some ⟨w.heap.size, 0, none⟩) 1 1)) (w.alloc (.cells cs 134)) else els
  | _ => els
theorem oneRowR_agg (cs : Array Value) (w : World) (els : Result Next) : oneRowR (.agg cs) w els = if cs.size = 130 then .ok (.value (.slice (some ⟨w.heap.size, 0, none⟩) 1 1)) (w.alloc (.cells cs 134)) else els := rfl
theorem one_opR (ev : Operand → Value) (d : Option Tmp) (x : Operand) (ty : TypeId) (pos : String) (after : Array Edge) (guard : Option (Nat × Bool)) (w : World) :
    Sem.run Tryz.prog (execOp ev ⟨d, .buildSlice 124 1 #[(0, x)], ty, pos, after, guard⟩) w = oneRowR (ev x) w (thatRun Tryz.prog ev ⟨d, .buildSlice 124 1 #[(0, x)], ty, pos, after, guard⟩ w) := by
  unfold oneRowR
  split
  · rename_i cs he
    split
    · rename_i h
      unfold execOp
      simp only [List.map_toArray, List.map_cons, List.map_nil, he, Sem.run_bind, run_oneR cs h w, Result.andThen_ok]
      rfl
    · rfl
  · rfl

end Go.Proofs.YtinjeijjfkkhbaaGreatDoor
