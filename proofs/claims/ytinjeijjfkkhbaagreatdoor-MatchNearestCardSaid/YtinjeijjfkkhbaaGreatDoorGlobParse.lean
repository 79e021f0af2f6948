/-
  HOW THE PACKAGE glob KEEPS ITS ALTERNATIVES IN MEMORY: slices of elements in a slice.
  THE WALK of glob's (*reader).alternatives: the alternatives of a pattern, or none.
  THE WALKS of glob.parse and glob.Check.
-/
import Derived.Test.YtinjeijjfkkhbaaGreatDoorGlobMem
import Derived.Great.BuildSlice
import Derived.Test.YtinjeijjfkkhbaaGreatDoorGlobSet
import Derived.Deep.AppendLies
import Derived.Deep.RegionLaw
namespace Go.Proofs.YtinjeijjfkkhbaaGreatDoor
open Go.RowKit

/-- A struct built out of one part. -/
theorem wpList_build_one {P : Program} {ops : Array Oper} {rest : List Oper} {o : Oper} {a : Act} {w : World} {Q : Exit → Act → World → Prop} (hg : o.guard = none) (t : TypeId) (i : Nat) (x : Operand) (ho : o.op = .build t #[(i, x)])
    (v : Value) (hv : a.eval x = v) (cells : Array Value) (hb : P.built t [(i, v)] = some cells)
    (h : wpList P ops Q rest (a.put o.dst (.agg cells)) w) : wpList P ops Q (o :: rest) a w := by
  refine wpList_build_to hg t #[(i, x)] ho cells ?_ h
  rw [← hb, ← hv]
  rfl

/-- An element's cells as a list; the cells of a list of elements. -/
def elL (x : G.El) : List Value := (elArr x).toList
theorem length_elL (x : G.El) : (elL x).length = 129 := by simp [elL, size_elArr]
theorem elL_arr (x : G.El) : (elL x).toArray = elArr x := by simp [elL]
theorem one_elL (x : G.El) : ∀ v ∈ elL x, v.oneCell' = true := by
  intro v hv
  have := one_elArr x
  rw [Array.all_eq_true_iff_forall_mem] at this
  exact this v (by simpa [elL] using hv)
def flat : List G.El → List Value
  | [] => []
  | x :: l => elL x ++ flat l
theorem flat_app (l : List G.El) (x : G.El) : flat (l ++ [x]) = flat l ++ elL x := by
  induction l with
  | nil => simp [flat]
  | cons a l ih => simp [flat, ih]
theorem flat_get : ∀ (l : List G.El) (k i : Nat) (x : G.El), l[k]? = some x → i < 129 → (flat l)[k * 129 + i]? = (elL x)[i]?
  | [], k, i, x, h, _ => by cases h
  | a :: l, 0, i, x, h, hi => by
    simp at h
    subst h
    rw [flat, List.getElem?_append_left (by rw [length_elL]; omega)]
    simp
  | a :: l, k + 1, i, x, h, hi => by
    rw [flat, List.getElem?_append_right (by rw [length_elL]; omega), length_elL]
    have := flat_get l k i x (by simpa using h) hi
    rw [show (k + 1) * 129 + i - 129 = k * 129 + i from by omega]
    exact this

/-- A value that is a slice of these elements, in memory from block B on. -/
def Row (w : World) (B : Nat) (v : Value) (l : List G.El) : Prop := w.ownsRow B 116 129 v l.length (flat l)

theorem own_only {S : Nat → Prop} {w w' : World} {B : Nat} {e : TypeId} {size n : Nat} {v : Value} {xs : List Value} (h : w.ownsRow B e size v n xs) (ho : Only S w w') (hS : ∀ g, v.ownBlock = some g → ¬ S g) : w'.ownsRow B e size v n xs := by
  refine ⟨h.1, ?_⟩
  rcases h.2 with hn | ⟨g, cap, cur, rfl, hb, hg, rest⟩
  · exact .inl hn
  · refine .inr ⟨g, cap, cur, rfl, hb, ?_, rest⟩
    rw [ho.block g (Array.getElem?_eq_some_iff.1 hg).1 (hS g rfl)]
    exact hg
theorem own_mono {w : World} {B B' : Nat} {e : TypeId} {size n : Nat} {v : Value} {xs : List Value} (h : w.ownsRow B e size v n xs) (hB : B' ≤ B) : w.ownsRow B' e size v n xs := by
  refine ⟨h.1, ?_⟩
  rcases h.2 with hn | ⟨g, cap, cur, rfl, hb, rest⟩
  · exact .inl hn
  · exact .inr ⟨g, cap, cur, rfl, by omega, rest⟩
/-- Two rows of different element types lie in different blocks. -/
theorem own_ne {w : World} {B B' : Nat} {e e' : TypeId} {size n size' n' : Nat} {v v' : Value} {xs xs' : List Value} (h : w.ownsRow B e size v n xs) (h' : w.ownsRow B' e' size' v' n' xs') (hne : e ≠ e') :
    ∀ g, v.ownBlock = some g → v'.ownBlock ≠ some g := by
  intro g hg hg'
  rcases h.2 with ⟨rfl, _⟩ | ⟨k, cap, cur, rfl, _, hk, _⟩
  · cases hg
  · rcases h'.2 with ⟨rfl, _⟩ | ⟨k', cap', cur', rfl, _, hk', _⟩
    · cases hg'
    · simp only [Value.ownBlock, Option.some.injEq] at hg hg'
      subst hg hg'
      rw [hk] at hk'
      injection hk' with h1
      injection h1 with _ h2
      exact hne h2
theorem own_blk_ne' {w : World} {B : Nat} {e : TypeId} {size n g : Nat} {v : Value} {xs : List Value} {t : TypeId} {cs : Array Value} (h : w.ownsRow B e size v n xs) (hg : Blk w g t cs) (hne : e ≠ t) : v.ownBlock ≠ some g := by
  intro he
  rcases h.2 with ⟨rfl, _⟩ | ⟨k, cap, cur, rfl, _, hk, _⟩
  · cases he
  · simp only [Value.ownBlock, Option.some.injEq] at he
    subst he
    exact Blk.ne_ (w := w) (g := k) (t := e) (cs := cur) hk hg hne rfl

/-- The alternatives of a pattern, in memory from block B on: to be read. -/
def Alts (w : World) (B : Nat) (v : Value) (l : List (List G.El)) : Prop :=
  ∃ vs : List Value, w.ownsRow B 103 1 v l.length vs ∧ ∀ (i : Nat) (a : List G.El), l[i]? = some a → ∃ u, vs[i]? = some u ∧ Row w B u a

/-- The alternatives that are being read: the last one may still grow. -/
def AccIn (w : World) (B : Nat) (v : Value) (acc : List (List G.El)) : Prop :=
  ∃ (init : List (List G.El)) (last : List G.El) (vi : List Value) (vl : Value) (B1 : Nat), acc = init ++ [last] ∧ w.ownsRow B 103 1 v acc.length (vi ++ [vl]) ∧ vi.length = init.length ∧
    (∀ (i : Nat) (a : List G.El), init[i]? = some a → ∃ u, vi[i]? = some u ∧ Row w B u a ∧ ∀ g, u.ownBlock = some g → g < B1) ∧ B ≤ B1 ∧ B1 ≤ w.heap.size ∧ Row w B1 vl last

theorem app_init (init : List (List G.El)) (last : List G.El) (x : G.El) : G.app (init ++ [last]) x = init ++ [last ++ [x]] := by
  induction init with
  | nil => rfl
  | cons a r ih =>
    cases r with
    | nil => rfl
    | cons b r => simp only [List.cons_append] at ih ⊢; rw [G.app]; exact congrArg (a :: ·) ih

theorem AccIn.alts {w : World} {B : Nat} {v : Value} {acc : List (List G.El)} (h : AccIn w B v acc) : Alts w B v acc := by
  obtain ⟨init, last, vi, vl, B1, rfl, h1, h2, h3, h4, _, h5⟩ := h
  refine ⟨_, h1, fun i a hi => ?_⟩
  rcases Nat.lt_or_ge i init.length with hl | hl
  · rw [List.getElem?_append_left hl] at hi
    obtain ⟨u, hu, hr, _⟩ := h3 i a hi
    exact ⟨u, by rw [List.getElem?_append_left (by omega)]; exact hu, hr⟩
  · rw [List.getElem?_append_right hl] at hi
    have : i - init.length = 0 := by
      rcases Nat.eq_zero_or_pos (i - init.length) with h0 | h0
      · exact h0
      · rw [List.getElem?_eq_none (by simp; omega)] at hi; cases hi
    rw [this] at hi
    simp at hi
    subst hi
    refine ⟨vl, ?_, own_mono h5 h4⟩
    rw [List.getElem?_append_right (by omega), h2, this]
    rfl
theorem AccIn.only {S : Nat → Prop} {w w' : World} {B : Nat} {v : Value} {acc : List (List G.El)} (h : AccIn w B v acc) (ho : Only S w w') (hS : ∀ k, S k → k < B) : AccIn w' B v acc := by
  obtain ⟨init, last, vi, vl, B1, rfl, h1, h2, h3, h4, h4', h5⟩ := h
  have hn : ∀ {B' : Nat} {e : TypeId} {size n : Nat} {u : Value} {xs : List Value}, B ≤ B' → w.ownsRow B' e size u n xs → ∀ g, u.ownBlock = some g → ¬ S g := fun hB hu g hg hs => by
    have := (hu.lt g hg).1
    have := hS g hs
    omega
  exact ⟨init, last, vi, vl, B1, rfl, own_only h1 ho (hn (Nat.le_refl _) h1), h2, fun i a hi => by
    obtain ⟨u, hu, hr, hg⟩ := h3 i a hi
    exact ⟨u, hu, own_only hr ho (hn (Nat.le_refl _) hr), hg⟩, h4, Nat.le_trans h4' ho.size, own_only h5 ho (hn h4 h5)⟩
/-- A later world: only the reader's block and what is newer has turned. -/
theorem AccIn.later {w w' : World} {B rb : Nat} {v : Value} {acc : List (List G.El)} (h : AccIn w B v acc) (ho : Only (fun k => k = rb ∨ w.heap.size ≤ k) w w') (hrb : rb < B) : AccIn w' B v acc := by
  obtain ⟨init, last, vi, vl, B1, rfl, h1, h2, h3, h4, h4', h5⟩ := h
  have hn : ∀ {B' : Nat} {e : TypeId} {size n : Nat} {u : Value} {xs : List Value}, B ≤ B' → w.ownsRow B' e size u n xs → ∀ g, u.ownBlock = some g → ¬ (g = rb ∨ w.heap.size ≤ g) := fun hB hu g hg hs => by
    have := hu.lt g hg
    omega
  exact ⟨init, last, vi, vl, B1, rfl, own_only h1 ho (hn (Nat.le_refl _) h1), h2, fun i a hi => by
    obtain ⟨u, hu, hr, hg⟩ := h3 i a hi
    exact ⟨u, hu, own_only hr ho (hn (Nat.le_refl _) hr), hg⟩, h4, Nat.le_trans h4' ho.size, own_only h5 ho (hn h4 h5)⟩
theorem Alts.only {S : Nat → Prop} {w w' : World} {B : Nat} {v : Value} {l : List (List G.El)} (h : Alts w B v l) (ho : Only S w w') (hS : ∀ k, S k → k < B) : Alts w' B v l := by
  obtain ⟨vs, h1, h2⟩ := h
  have hn : ∀ {e : TypeId} {size n : Nat} {u : Value} {xs : List Value}, w.ownsRow B e size u n xs → ∀ g, u.ownBlock = some g → ¬ S g := fun hu g hg hs => by
    have := (hu.lt g hg).1
    have := hS g hs
    omega
  exact ⟨vs, own_only h1 ho (hn h1), fun i a hi => by
    obtain ⟨u, hu, hr⟩ := h2 i a hi
    exact ⟨u, hu, own_only hr ho (hn hr)⟩⟩
theorem only_grown {w w' : World} {row : Option Nat} (h : w.grownBy w' row) : Only (fun k => row = some k) w w' := ⟨h.os, h.tape, h.output, h.size, fun k hk hn => h.block k hk fun e => hn e.symm⟩

/-- A slice's cells are one list. -/
theorem own_unique {w : World} {B B' : Nat} {e e' : TypeId} {size n : Nat} {v : Value} {xs xs' : List Value} (h : w.ownsRow B e size v n xs) (h' : w.ownsRow B' e' size v n xs') : xs = xs' := by
  rcases h.2 with ⟨rfl, h0⟩ | ⟨k, cap, cur, rfl, _, hk, _, _, _, ht⟩
  · subst h0
    have a : xs = [] := List.eq_nil_of_length_eq_zero (by simpa using h.1)
    have b : xs' = [] := List.eq_nil_of_length_eq_zero (by simpa using h'.1)
    rw [a, b]
  · rcases h'.2 with ⟨hv, _⟩ | ⟨k', cap', cur', hv, _, hk', _, _, _, ht'⟩
    · cases hv
    · cases hv
      rw [hk] at hk'
      cases hk'
      rw [← ht, ← ht']
theorem AccIn.outer {w : World} {B : Nat} {v : Value} {acc : List (List G.El)} (h : AccIn w B v acc) : ∃ vs, w.ownsRow B 103 1 v acc.length vs := by
  obtain ⟨init, last, vi, vl, B1, rfl, h1, _⟩ := h
  exact ⟨_, h1⟩

/-- Behind 'l = append(l, nil)'. -/
theorem AccIn.bar {w w' : World} {B : Nat} {v v' : Value} {acc : List (List G.El)} (h : AccIn w B v acc) {vs : List Value} (hvs : w.ownsRow B 103 1 v acc.length vs) (hown' : w'.ownsRow B 103 1 v' (acc.length + 1) (vs ++ [.slice none 0 0])) (hg : w.grownBy w' v.ownBlock) :
    AccIn w' B v' (acc ++ [[]]) := by
  have hown : ∀ xs : List Value, w.ownsRow B 103 1 v acc.length xs → w'.ownsRow B 103 1 v' (acc.length + 1) (xs ++ [.slice none 0 0]) := fun xs hx => by rw [own_unique hx hvs]; exact hown'
  clear hown' hvs
  obtain ⟨init, last, vi, vl, B1, rfl, h1, h2, h3, h4, h4', h5⟩ := h
  have ho := only_grown hg
  have ne : (116 : Nat) ≠ 103 := by decide
  refine ⟨init ++ [last], [], vi ++ [vl], .slice none 0 0, w'.heap.size, rfl, by simpa using hown _ h1, by simp [h2], fun i a hi => ?_, Nat.le_trans (Nat.le_trans h4 h4') hg.size, Nat.le_refl _, World.ownsRow_nil _ _ _ _⟩
  rcases Nat.lt_or_ge i init.length with hl | hl
  · rw [List.getElem?_append_left hl] at hi
    obtain ⟨u, hu, hr, hb⟩ := h3 i a hi
    exact ⟨u, by rw [List.getElem?_append_left (by omega)]; exact hu, own_only hr ho (fun g hg' e => own_ne hr h1 ne g hg' e), fun g hg' => by have := hb g hg'; have := hg.size; omega⟩
  · rw [List.getElem?_append_right hl] at hi
    have h0 : i - init.length = 0 := by
      rcases Nat.eq_zero_or_pos (i - init.length) with h0 | h0
      · exact h0
      · rw [List.getElem?_eq_none (by simp; omega)] at hi; cases hi
    rw [h0] at hi
    simp at hi
    subst hi
    refine ⟨vl, by rw [List.getElem?_append_right (by omega), h2, h0]; rfl, own_only (own_mono h5 h4) ho (fun g hg' e => own_ne h5 h1 ne g hg' e), fun g hg' => ?_⟩
    have := (h5.lt g hg').2
    have := hg.size
    omega

/-! A WHOLE ELEMENT READ IN A REGION THAT DRAWS ITS ORDER: its cells as a function of the world. -/
def full (w : World) (g n : Nat) : Bool := (List.range n).all fun i => (w.cell? ⟨g, i, none⟩).isSome
def cellsAt (w : World) (g n : Nat) : Array Value := Array.ofFn (n := n) fun i => (w.cell? ⟨g, i.val, none⟩).getD undef
theorem row_of_range {w : World} {g n : Nat} {L : List Value} (h : w.rangeAt g 0 L) (hn : L.length = n) : full w g n = true ∧ cellsAt w g n = L.toArray := by
  subst hn
  constructor
  · unfold full
    rw [List.all_eq_true]
    intro i hi
    have := h i (L[i]'(by simpa using hi)) (List.getElem?_eq_getElem (by simpa using hi))
    simp only [Nat.zero_add] at this
    rw [this]; rfl
  · unfold cellsAt
    apply Array.ext
    · simp
    · intro i h1 h2
      have := h i (L[i]'(by simpa using h2)) (List.getElem?_eq_getElem (by simpa using h2))
      simp only [Nat.zero_add] at this
      simp [this]
theorem range_of_row {w : World} {g n : Nat} {L : List Value} (h1 : full w g n = true) (h2 : cellsAt w g n = L.toArray) (hn : L.length = n) : w.rangeAt g 0 L := by
  subst hn
  intro j v hv
  have hj : j < L.length := (List.getElem?_eq_some_iff.1 hv).1
  unfold full at h1
  rw [List.all_eq_true] at h1
  have := h1 j (by simpa using hj)
  obtain ⟨u, hu⟩ := Option.isSome_iff_exists.1 this
  have h3 : (cellsAt w g L.length)[j]? = L.toArray[j]? := by rw [h2]
  unfold cellsAt at h3
  simp [hj, hu] at h3
  rw [Nat.zero_add, hu, ← hv, h3, List.getElem?_eq_getElem hj]
theorem size_cellsAt (w : World) (g n : Nat) : (cellsAt w g n).size = n := Array.size_ofFn
theorem range_cells {w : World} {g n : Nat} (h : full w g n = true) : w.rangeAt g 0 (cellsAt w g n).toList := by
  have : (cellsAt w g n).toList.length = n := (Array.length_toList).trans (size_cellsAt w g n)
  exact range_of_row (n := n) h (by simp) this
theorem full_drew (w : World) (g n : Nat) : full w.drew g n = full w g n := rfl
theorem cellsAt_drew (w : World) (g n : Nat) : cellsAt w.drew g n = cellsAt w g n := rfl
theorem full_alloc (w : World) (g n : Nat) (o : Obj) (h : g < w.heap.size) : full (w.alloc o) g n = full w g n := by
  unfold full
  congr 1
  funext i
  rw [World.cell?_alloc_lt _ _ _ h]
theorem cellsAt_alloc (w : World) (g n : Nat) (o : Obj) (h : g < w.heap.size) : cellsAt (w.alloc o) g n = cellsAt w g n := by
  unfold cellsAt
  congr 1
  funext i
  rw [World.cell?_alloc_lt _ _ _ h]
theorem load_el (g : Nat) (w : World) (h : full w g 129 = true) : (Instr.loadAt 116 (.pointer (some ⟨g, 0, none⟩))).run Tryz.prog w = .ok (.agg (cellsAt w g 129)) w := by
  have := run_loadAt_mid (P := Tryz.prog) w g 0 116 (cellsAt w g 129).toList _ (range_cells h) Tryz.underlying116 rfl (by
    have : (cellsAt w g 129).toList.length = 129 := (Array.length_toList).trans (size_cellsAt w g 129)
    rw [this]; exact sizeEl)
  rwa [Array.toArray_toList] at this

/-! THE SAME TWO STEPS AT THE LEVEL OF THE WHOLE OPERATION, for the walk inside a region that draws its order. -/
def thatRun (P : Program) (ev : Operand → Value) (o : Oper) (w : World) : Result Next := Sem.run P (execOp ev o) w
def loadRow (v : Value) (w : World) (els : Result Next) : Result Next := match v with
  | .pointer (some ⟨g, 0, none⟩) => if full w g 129 = true then .ok (.value (.agg (cellsAt w g 129))) w else els
  | _ => els
theorem loadRow_ptr (g : Nat) (w : World) (els : Result Next) : loadRow (.pointer (some ⟨g, 0, none⟩)) w els = if full w g 129 = true then .ok (.value (.agg (cellsAt w g 129))) w else els := rfl
theorem load_op (ev : Operand → Value) (d : Option Tmp) (x : Operand) (ty : TypeId) (pos : String) (after : Array Edge) (guard : Option (Nat × Bool)) (w : World) :
    Sem.run Tryz.prog (execOp ev ⟨d, .load 116 x, ty, pos, after, guard⟩) w = loadRow (ev x) w (thatRun Tryz.prog ev ⟨d, .load 116 x, ty, pos, after, guard⟩ w) := by
  unfold loadRow
  split
  · rename_i g he
    split
    · rename_i h
      unfold execOp
      simp only [he, Sem.run_bind, load_el g w h, Result.andThen_ok]
      rfl
    · rfl
  · rfl

theorem foldl_set : ∀ (l : List Value) (k : Nat) (a : Array Value), k + l.length ≤ a.size →
    (l.zipIdx k).foldl (fun cs x => cs.setIfInBounds x.2 x.1) a = (a.toList.take k ++ l ++ a.toList.drop (k + l.length)).toArray
  | [], k, a, _ => by simp
  | v :: l, k, a, h => by
    rw [List.zipIdx_cons, List.foldl_cons]
    simp only [List.length_cons] at h
    rw [foldl_set l (k + 1) _ (by simp; omega)]
    congr 1
    rw [Array.toList_setIfInBounds]
    have h1 : (a.toList.set k v).take (k + 1) = a.toList.take k ++ [v] := by
      rw [List.take_add_one, List.take_set_of_le (Nat.le_refl _), List.getElem?_set_self (by simp; omega)]
      rfl
    have h2 : (a.toList.set k v).drop (k + 1 + l.length) = a.toList.drop (k + (l.length + 1)) := by
      rw [List.drop_set_of_lt (by omega)]
      congr 1
      omega
    rw [h1, h2]
    simp
theorem fill_one (z cs : Array Value) (n : Nat) (hz : z.size = n) (hc : cs.size = n) : Instr.fill (fun i => some (i * n, n)) z [(0, .agg cs)] = some cs := by
  have hcond : ¬ ((decide ((Value.agg cs).cells.size ≠ n) || decide (0 * n + (Value.agg cs).cells.size > z.size)) = true) := by
    simp [Value.cells, hz, hc]
  simp only [Instr.fill]
  rw [if_neg hcond]
  simp only [Value.cells]
  congr 1
  rw [← Array.foldl_toList, Array.toList_zipIdx]
  have := foldl_set cs.toList 0 z (by simp [hz, hc])
  simp only [Nat.zero_mul, Nat.zero_add] at this ⊢
  have hd : z.toList.drop cs.toList.length = [] := List.drop_eq_nil_of_le (by simp [hz, hc])
  rw [this, hd]
  simp

theorem info_el : (Tryz.prog.info? 116).map (fun i => (i.zero, i.size, i.bytes)) = some (some (.agg (elArr ⟨0, false, G.none'⟩)), 129, 129) := by kernel_rfl
theorem run_one (cs : Array Value) (h : cs.size = 129) (W : World) : (Instr.buildSlice 103 1 #[(0, .agg cs)]).run Tryz.prog W = .ok (.slice (some ⟨W.heap.size, 0, none⟩) 1 1) (W.alloc (.cells cs 116)) := by
  obtain ⟨i0, hi0, hz0, hz1, hz2⟩ := info_parts info_el
  refine run_buildSlice W _ _ 1 _ cs i0 _ Tryz.underlying103 hi0 hz0 (by rw [hz1]; omega) (by rw [hz1]; omega) ?_
  rw [hz1]
  exact fill_one _ _ _ (by simp) h
def oneRow (v : Value) (w : World) (els : Result Next) : Result Next := match v with
  | .agg cs => if cs.size = 129 then .ok (.value (.slice (some ⟨w.heap.size, 0, none⟩) 1 1)) (w.alloc (.cells cs 116)) else els
  | _ => els
theorem oneRow_agg (cs : Array Value) (w : World) (els : Result Next) : oneRow (.agg cs) w els = if cs.size = 129 then .ok (.value (.slice (some ⟨w.heap.size, 0, none⟩) 1 1)) (w.alloc (.cells cs 116)) else els := rfl
theorem one_op (ev : Operand → Value) (d : Option Tmp) (x : Operand) (ty : TypeId) (pos : String) (after : Array Edge) (guard : Option (Nat × Bool)) (w : World) :
    Sem.run Tryz.prog (execOp ev ⟨d, .buildSlice 103 1 #[(0, x)], ty, pos, after, guard⟩) w = oneRow (ev x) w (thatRun Tryz.prog ev ⟨d, .buildSlice 103 1 #[(0, x)], ty, pos, after, guard⟩ w) := by
  unfold oneRow
  split
  · rename_i cs he
    split
    · rename_i h
      unfold execOp
      simp only [List.map_toArray, List.map_cons, List.map_nil, he, Sem.run_bind, run_one cs h w, Result.andThen_ok]
      rfl
    · rfl
  · rfl

end Go.Proofs.YtinjeijjfkkhbaaGreatDoor

namespace Go.Proofs.YtinjeijjfkkhbaaGreatDoor
open Go.RowKit

theorem info_sl : (Tryz.prog.info? 103).map (fun i => (i.zero, i.size, i.bytes)) = some (some (.slice none 0 0), 1, 24) := by kernel_rfl

/-- What the last alternative's new slice makes of the whole. -/
theorem acc_more {w w1 w2 : World} {B B1 g cap gg cap2 : Nat} {init : List (List G.El)} {last : List G.El} {vi : List Value} {vl : Value} {x : G.El}
    (h1 : w.ownsRow B 103 1 (.slice (some ⟨g, 0, none⟩) (init.length + 1) cap) (init.length + 1) (vi ++ [vl])) (h2 : vi.length = init.length)
    (h3 : ∀ (i : Nat) (a : List G.El), init[i]? = some a → ∃ u, vi[i]? = some u ∧ Row w B u a ∧ ∀ g, u.ownBlock = some g → g < B1) (h4 : B ≤ B1) (h4' : B1 ≤ w.heap.size) (h5 : Row w B1 vl last)
    (hb : Below w.heap.size w w1) (hown : w2.ownsRow B1 116 129 (.slice (some ⟨gg, 0, none⟩) (last.length + 1) cap2) (last.length + 1) (flat last ++ elL x)) (hg : w1.grownBy w2 vl.ownBlock) :
    AccIn (w2.setCell ⟨g, init.length, none⟩ (.slice (some ⟨gg, 0, none⟩) (last.length + 1) cap2)) B (.slice (some ⟨g, 0, none⟩) (init.length + 1) cap) (init ++ [last ++ [x]]) ∧
      Only (fun k => B ≤ k) w (w2.setCell ⟨g, init.length, none⟩ (.slice (some ⟨gg, 0, none⟩) (last.length + 1) cap2)) := by
  have ne : (116 : Nat) ≠ 103 := by decide
  have hgB : B ≤ g := (h1.lt g rfl).1
  have hvl : ∀ k, vl.ownBlock = some k → B1 ≤ k := fun k hk => (h5.lt k hk).1
  have ho : Only (fun k => vl.ownBlock = some k) w w2 := (Only.of_below (S := fun k => vl.ownBlock = some k) hb fun k h1 h2 => by omega).trans (only_grown hg)
  have hs : Only (fun k => k = g) w2 (w2.setCell ⟨g, init.length, none⟩ (.slice (some ⟨gg, 0, none⟩) (last.length + 1) cap2)) := Only.setCell (S := fun k => k = g) (p := ⟨g, init.length, none⟩) (Only.refl _ _) (.inl rfl) _
  have k1 := own_only h1 ho fun k hk e => own_ne h5 h1 ne k e hk
  have k2 := (k1.stored init.length (.slice (some ⟨gg, 0, none⟩) (last.length + 1) cap2)).1
  have e1 : (vi ++ [vl]).set init.length (.slice (some ⟨gg, 0, none⟩) (last.length + 1) cap2) = vi ++ [.slice (some ⟨gg, 0, none⟩) (last.length + 1) cap2] := by
    rw [← h2, List.set_append_right _ _ (Nat.le_refl _)]
    simp
  rw [e1] at k2
  refine ⟨⟨init, last ++ [x], vi, _, B1, rfl, by simpa using k2, h2, fun i a hi => ?_, h4, Nat.le_trans h4' (Nat.le_trans ho.size hs.size), ?_⟩, ?_⟩
  · obtain ⟨u, hu, hr, hlt⟩ := h3 i a hi
    refine ⟨u, hu, own_only (own_only hr ho fun k hk e => ?_) hs fun k hk e => ?_, hlt⟩
    · have := hlt k hk
      have := hvl k e
      omega
    · subst e
      exact own_ne hr h1 ne k hk rfl
  · have : (last ++ [x]).length = last.length + 1 := by simp
    unfold Row
    rw [this, flat_app]
    refine own_only hown hs fun k hk e => ?_
    subst e
    exact own_ne hown k1 ne k hk rfl
  · exact (ho.mono fun k hk => Nat.le_trans h4 (hvl k hk)).trans (hs.mono fun k hk => by rw [hk]; exact hgB)

theorem run_nil (W : World) : (Instr.buildSlice 100 1 #[(0, .slice none 0 0)]).run Tryz.prog W = .ok (.slice (some ⟨W.heap.size, 0, none⟩) 1 1) (W.alloc (.cells #[.slice none 0 0] 103)) := by kernel_rfl

theorem zero_el : Tryz.zeroCells116 = elArr ⟨0, false, G.none'⟩ := by kernel_rfl

/-- What the last statement of the loop reads, held while memory is made. -/
def Held (w : World) (g j : Nat) (vl : Value) (gx : Nat) (x : G.El) : Prop := w.cell? ⟨g, j, none⟩ = some vl ∧ w.frozen? ⟨g, j, none⟩ = false ∧ full w gx 129 = true ∧ cellsAt w gx 129 = elArr x
theorem Held.mk' {w : World} {g j : Nat} {vl : Value} {gx : Nat} {x : G.El} (h1 : w.cell? ⟨g, j, none⟩ = some vl) (h2 : w.frozen? ⟨g, j, none⟩ = false) (h3 : w.rangeAt gx 0 (elL x)) : Held w g j vl gx x := by
  have := row_of_range h3 (length_elL x)
  exact ⟨h1, h2, this.1, by rw [this.2, elL_arr]⟩
theorem Held.range {w : World} {g j : Nat} {vl : Value} {gx : Nat} {x : G.El} (h : Held w g j vl gx x) : w.rangeAt gx 0 (elL x) := range_of_row h.2.2.1 (by rw [h.2.2.2, elL_arr]) (length_elL x)
theorem Held.alloc {w : World} {g j : Nat} {vl : Value} {gx : Nat} {x : G.El} (h : Held w g j vl gx x) (o : Obj) : Held (w.alloc o) g j vl gx x := by
  have hlt := World.block_lt_of_cell? w _ h.1
  exact Held.mk' ((World.cell?_alloc_lt _ _ _ hlt).trans h.1) ((World.frozen?_alloc_past _ _ _ hlt).trans h.2.1) (World.rangeAt_alloc h.range o)
theorem Held.grown {w w1 : World} {g j : Nat} {vl : Value} {gx : Nat} {x : G.El} (h : Held w g j vl gx x) (hg : w.grownBy w1 vl.ownBlock) (hne : some g ≠ vl.ownBlock) (hx : ∀ q, vl.ownBlock = some q → q < gx) : Held w1 g j vl gx x := by
  have hlt := World.block_lt_of_cell? w _ h.1
  refine Held.mk' ((hg.cell_far _ hlt hne).trans h.1) ((hg.frozen_far _ hlt hne).trans h.2.1) fun i u hu => ?_
  have := h.range i u hu
  exact (hg.cell_far _ (World.block_lt_of_cell? w _ this) (fun e => by have := hx gx e.symm; omega)).trans this
attribute [local go_sem ↓] load_op one_op
attribute [local go_sem] loadRow_ptr oneRow_agg full_alloc cellsAt_alloc full_drew cellsAt_drew

/-- What 'alternatives' answers, and what it leaves. -/
def AltsPost (p : ByteArray) (rb : Nat) (w : World) (e : Ending) (w' : World) : Prop :=
  ∃ v ok, e = .returned (.tuple #[v, .bool ok]) ∧ Only (fun k => k = rb) w w' ∧ (ok = false → G.go .out [[]] (bs p) = none) ∧
    (ok = true → ∃ l, G.go .out [[]] (bs p) = some l ∧ Alts w' w.heap.size v l ∧ l.length ≤ 257 ∧ ∀ a, a ∈ l → a.length ≤ 256)

/-- What holds at the head of the loop of 'alternatives'. -/
def AltsAt (p : ByteArray) (rb : Nat) (w : World) (l : Value) (wr : World) (k : Nat) (acc : List (List G.El)) : Prop :=
  k ≤ p.size ∧ acc.length ≤ k + 1 ∧ (∀ a, a ∈ acc → a.length ≤ k) ∧ Blk wr rb 110 #[.string p, .int .i64 k] ∧ AccIn wr w.heap.size l acc ∧ Only (fun k => k = rb) w wr ∧ G.go .out [[]] (bs p) = G.go .out acc ((bs p).drop k)

theorem AltsAt.start (p : ByteArray) (rb : Nat) (w : World) (hr : Blk w rb 110 #[.string p, .int .i64 0]) :
    AltsAt p rb w (.slice (some ⟨w.heap.size, 0, none⟩) 1 1) (w.alloc (.cells #[.slice none 0 0] 103)) 0 [[]] := by
  refine ⟨by omega, by simp, fun a ha => by simp at ha; subst ha; simp, hr.alloc _, ?_, (Only.refl _ _).alloc _, by simp⟩
  exact ⟨[], [], [], .slice none 0 0, (w.alloc (.cells #[.slice none 0 0] 103)).heap.size, rfl, World.ownsRow_lit w #[.slice none 0 0] 1 (Nat.le_refl _) (by simp [maxLen]) rfl, rfl, fun i a h => by simp at h, by simp, Nat.le_refl _, World.ownsRow_nil _ _ _ _⟩

set_option maxRecDepth 100000 in
set_option maxHeartbeats 4000000 in
theorem alternatives_any (p : ByteArray) (rb : Nat) (w : World) (hr : Blk w rb 110 #[.string p, .int .i64 0]) (hp : p.size ≤ 256) (hall : ∀ x, x ∈ bs p → G.pr x = true) :
    Calls Tryz.prog 77 #[.pointer (some ⟨rb, 0, none⟩)] w (AltsPost p rb w) := by
  have hlt := hr.lt
  have hst := AltsAt.start p rb w hr
  have hst' := Lib.hid hst; clear hst hr
  have hall' := Lib.hid hall; clear hall
  have rn := run_nil
  obtain ⟨i0, hi0, hz0, hz1, hz2⟩ := info_parts info_sl
  go_enter Tryz.func77, Tryz.ntmps77
  go_wp2_with fail
  go_loopw [4] (fun l wr => ∃ k acc, AltsAt p rb w l wr k acc) (fun _ wr => p.size - placeOf wr rb)
  case atStart => exact ⟨0, [[]], hst'.out⟩
  case round =>
    clear hst'
    obtain ⟨k, acc, hk, hn1, hn2, hr, ha, ho, hgo⟩ := hrel
    obtain ⟨l4, rfl⟩ : ∃ y : Value, y = u4 := ⟨_, rfl⟩
    have c0 : wr.cell? ⟨rb, 0, none⟩ = some (.string p) := (hr.cell 0).trans rfl
    have c1 : wr.cell? ⟨rb, 1, none⟩ = some (.int .i64 k) := (hr.cell 1).trans rfl
    have f1 := hr.frozen 1
    have hpl := placeOf_blk hr
    have hpl' := Lib.hid hpl; clear hpl
    have hn2' := Lib.hid hn2; clear hn2
    have hr' := Lib.hid hr; clear hr
    have ha' := Lib.hid ha; clear ha
    have ho' := Lib.hid ho; clear ho
    have hgo' := Lib.hid hgo; clear hgo
    by_cases hkl : k < p.size
    · go_wp2_with fail
      go_quiet (fail)
      go_wp2_with fail
      go_quiet (fail)
      have hpk := get_bs p k hkl
      generalize hc : (p[k]'hkl).toNat = c at *
      clear hc
      have hpk' := Lib.hid hpk; clear hpk
      go_upto_region 4 with fail
      go_cut [] (fun wx => Blk wx rb 110 #[.string p, .int .i64 (k + 1 : Nat)] ∧ AccIn wx w.heap.size l4 acc ∧ Only (fun k => k = rb) w wx)
      case first =>
        go_wp2_with fail
        go_meet
        case rel =>
          refine ⟨?_, ?_, ?_⟩
          · exact (hr'.out.drewN _).store 1 _
          · exact ha'.out.only (S := fun k => k = rb) (Only.setCell (S := fun k => k = rb) (p := ⟨rb, 1, none⟩) ((Only.refl _ _).drewN _) (.inl rfl) _) (by omega)
          · exact (ho'.out.drewN _).setCell (.inl rfl) _
      case rest =>
        obtain ⟨hr1, ha1, ho1⟩ := hcut
        clear hr' ha' ho' c0 c1 f1
        have hr' := Lib.hid hr1; clear hr1
        have ha' := Lib.hid ha1; clear ha1
        have ho' := Lib.hid ho1; clear ho1
        obtain ⟨wb, rfl⟩ : ∃ x : World, x = wc := ⟨_, rfl⟩
        have hz := ho'.out.size
        have hrb : rb < wb.heap.size := hr'.out.lt
        go_upto_region 5 with fail
        go_cut [6] (fun t6 wx => t6 = .pointer (some ⟨wb.heap.size, 0, none⟩) ∧ Blk wx wb.heap.size 116 (elArr ⟨c, false, G.none'⟩) ∧ Blk wx rb 110 #[.string p, .int .i64 (k + 1 : Nat)] ∧ Only (fun k => k = rb ∨ wb.heap.size ≤ k) wb wx)
        case first =>
          go_wp2_with (first
            | (refine wpList_build_to rfl 116 #[(0, .tmp 36)] rfl (elArr ⟨c, false, G.none'⟩) (built_lit c) ?_)
            | (refine wpList_store_row rfl 116 (.tmp 6) (.tmp 37) rfl wb.heap.size (elArr ⟨c, false, G.none'⟩) rfl rfl 116 (elArr ⟨0, false, G.none'⟩) (by rw [← zero_el]; exact heap_alloc_new wb _) (sizeEl' _) (by rw [size_elArr, size_elArr]) (one_elArr _) ?_))
          go_meet
          case rel =>
            exact ⟨rfl, (Blk.new wb _ _).row _, (hr'.out.alloc _).rowOther (by omega) _, ((Only.refl _ _).alloc _).setRow (.inl (.inr (Nat.le_refl _))) _⟩
        case rest =>
          obtain ⟨rfl, hx1, hr1, ho1⟩ := hcut
          clear hr'
          have hx' := Lib.hid hx1; clear hx1
          have hr' := Lib.hid hr1; clear hr1
          have ho1' := Lib.hid ho1; clear ho1
          obtain ⟨wa, rfl⟩ : ∃ x : World, x = wc := ⟨_, rfl⟩
          have hds : ∃ r, (bs p).drop k = c :: r ∧ r = (bs p).drop (k + 1) := ⟨_, G.drop_of_get hpk'.out, rfl⟩
          obtain ⟨r, hdr, hr0⟩ := hds
          have hdr' := Lib.hid hdr; clear hdr
          have hr0' := Lib.hid hr0; clear hr0
          go_upto_block 2 with fail
          go_cut [4] (fun s4 wx => s4 = l4 ∧ ∃ x k2, k < k2 ∧ k2 ≤ p.size ∧ Blk wx wb.heap.size 116 (elArr x) ∧ Blk wx rb 110 #[.string p, .int .i64 (k2 : Nat)] ∧ Only (fun k => k = rb ∨ wb.heap.size ≤ k) wb wx ∧ G.go .out acc ((bs p).drop k) = G.go .out (G.app acc x) ((bs p).drop k2))
          case first =>
            have hgx1 := hx'.out.lt
            by_cases e1 : c = 124
            · subst e1
              have hdr2 : G.go .out acc ((bs p).drop k) = G.go .out (acc ++ [[]]) ((bs p).drop (k + 1)) := by rw [hdr'.out, ← hr0'.out, G.go_bar]
              have hdr2' := Lib.hid hdr2; clear hdr2 hdr' hr0'
              have haa := ha'.out.later ho1'.out hlt
              obtain ⟨vs, hvs⟩ := haa.outer
              have hne := own_blk_ne' hvs hr'.out (by decide)
              have hvlt := fun g hg => (hvs.lt g hg).1
              have haa' := Lib.hid haa; clear haa
              have hvs' := Lib.hid hvs; clear hvs
              have hne' := Lib.hid hne; clear hne
              have hvlt' := Lib.hid hvlt; clear hvlt
              have hwa := ho1'.out.size
              go_wp2_with (at_builtin; refine wpList_append_own _ rfl (.tmp 44) (.tmp 45) 100 rfl w.heap.size 103 i0 (.slice none 0 0) 1 24 Tryz.underlying100 hi0 hz0 hz1 hz2 rfl (by decide) l4 acc.length vs rfl (hvs'.out.alloc _) ⟨wa.heap.size, 0, none⟩ 1 1 [.slice none 0 0] rfl rfl (cell_one_new _ _ _) (by intro u hu; simp at hu; subst hu; rfl) (by simp only [maxLen]; omega) (by omega) (by simp; omega) ?_; intro v' w1 hown' hgrow _)
              go_roundw
              case rel =>
                have hwx : Only (fun k => k = rb ∨ wb.heap.size ≤ k) wb (wa.alloc (.cells #[.slice none 0 0] 103)) := ho1'.out.alloc _
                have hrx := (hr'.out.alloc (.cells #[.slice none 0 0] 103)).only (only_grown hgrow) (fun e => hne'.out e)
                refine ⟨k + 1, acc ++ [[]], by omega, by simp; omega, fun a ha => ?_, hrx, (ha'.out.later hwx hlt).bar (hvs'.out.alloc _) hown' hgrow, ?_, ?_⟩
                · rw [List.mem_append] at ha
                  rcases ha with ha | ha
                  · have := hn2'.out a ha; omega
                  · simp at ha; subst ha; simp
                · refine (ho'.out.step hwx fun i hi => ?_).grown hgrow fun k hk => .inr (hvlt'.out k hk)
                  rcases hi with hi | hi
                  · exact .inl hi
                  · exact .inr (by omega)
                · rw [hgo'.out]; exact hdr2'.out
              case measure =>
                have hrx := (hr'.out.alloc (.cells #[.slice none 0 0] 103)).only (only_grown hgrow) (fun e => hne'.out e)
                rw [placeOf_blk hrx, hpl'.out]
                omega
            have b1 : ((c : Int) == 124) = false := by rw [beq_eq_false_iff_ne]; omega
            by_cases e2 : c = 42
            · subst e2
              have hdr2 : G.go .out acc ((bs p).drop k) = G.go .out (G.app acc G.starEl) ((bs p).drop (k + 1)) := by rw [hdr'.out, ← hr0'.out, G.go_star]
              have hdr2' := Lib.hid hdr2; clear hdr2 hdr' hr0'
              go_wp2_with (first
                | (go_at_call 89; refine (every_any _).mono ?_; rintro e w' ⟨rfl, hbe⟩)
                | (refine wpList_build_to rfl 116 #[(1, .const (.bool true)), (2, .tmp 49)] rfl (elArr ⟨0, true, G.pr⟩) (built_star G.pr) ?_)
                | (refine wpList_store_row rfl 116 (.tmp 6) (.tmp 50) rfl wb.heap.size (elArr ⟨0, true, G.pr⟩) rfl rfl 116 (elArr ⟨42, false, G.none'⟩) (hx'.out.below hbe hgx1) (sizeEl' _) (by rw [size_elArr, size_elArr]) (one_elArr _) ?_))
              go_meet
              case rel => exact ⟨rfl, G.starEl, k + 1, by omega, by omega, (hx'.out.below hbe hgx1).row _, (hr'.out.below hbe hr'.out.lt).rowOther (by omega) _, (ho1'.out.step (Only.of_below (S := fun _ => False) hbe fun k h1 h2 => by omega) fun i hi => hi.elim).setRow (.inl (.inr (Nat.le_refl _))) _, hdr2'.out⟩
            have b2 : ((c : Int) == 42) = false := by rw [beq_eq_false_iff_ne]; omega
            by_cases e3 : c = 63
            · subst e3
              have hdr2 : G.go .out acc ((bs p).drop k) = G.go .out (G.app acc G.anyEl) ((bs p).drop (k + 1)) := by rw [hdr'.out, ← hr0'.out, G.go_any]
              have hdr2' := Lib.hid hdr2; clear hdr2 hdr' hr0'
              go_wp2_with (first
                | (go_at_call 89; refine (every_any _).mono ?_; rintro e w' ⟨rfl, hbe⟩)
                | (refine wpList_build_to rfl 116 #[(2, .tmp 53)] rfl (elArr ⟨0, false, G.pr⟩) (built_sub G.pr) ?_)
                | (refine wpList_store_row rfl 116 (.tmp 6) (.tmp 54) rfl wb.heap.size (elArr ⟨0, false, G.pr⟩) rfl rfl 116 (elArr ⟨63, false, G.none'⟩) (hx'.out.below hbe hgx1) (sizeEl' _) (by rw [size_elArr, size_elArr]) (one_elArr _) ?_))
              go_meet
              case rel => exact ⟨rfl, G.anyEl, k + 1, by omega, by omega, (hx'.out.below hbe hgx1).row _, (hr'.out.below hbe hr'.out.lt).rowOther (by omega) _, (ho1'.out.step (Only.of_below (S := fun _ => False) hbe fun k h1 h2 => by omega) fun i hi => hi.elim).setRow (.inl (.inr (Nat.le_refl _))) _, hdr2'.out⟩
            have b3 : ((c : Int) == 63) = false := by rw [beq_eq_false_iff_ne]; omega
            by_cases e4 : c = 91
            · subst e4
              have hdr2 : ∀ acc2, G.go .out acc2 ((bs p).drop k) = opened acc2 ((bs p).drop (k + 1)) := fun acc2 => by rw [hdr'.out, ← hr0'.out, go_opened]
              have hdr2' := Lib.hid hdr2; clear hdr2 hdr' hr0'
              go_wp2_with (first
                | (go_at_call 90; refine (set_any p (k + 1) rb _ hr'.out (by omega) hp hall'.out).mono ?_; intro e w' hset; obtain ⟨s, ok, a2, rfl, ha1, ha2, hdone, hr2, ho2⟩ := hset; have hdone' := Lib.hid hdone; clear hdone; have hr2' := Lib.hid hr2; clear hr2; have ho2' := Lib.hid ho2; clear ho2; cases ok)
                | (refine wpList_store_row rfl 114 (.tmp 7) (.tmp 60) rfl w'.heap.size (setArr s) rfl rfl 114 (setArr G.none') (by rw [← zero_set]; exact heap_alloc_new w' (.cells Tryz.zeroCells114 114)) (sizeSet' s) (by rw [size_setArr, size_setArr]) (one_setArr s) ?_)
                | (refine wpList_load_row rfl 114 (.tmp 7) rfl w'.heap.size rfl 114 (setArr s) (0, 0) _ ((Blk.new w' 114 Tryz.zeroCells114).row (setArr s)) Tryz.underlying114 rfl (sizeSet' s) ?_)
                | (refine wpList_build_one rfl 116 2 (.tmp 64) rfl (.agg (setArr s)) rfl (elArr ⟨0, false, s⟩) (built_sub s) ?_)
                | (refine wpList_store_row rfl 116 (.tmp 6) (.tmp 65) rfl wb.heap.size (elArr ⟨0, false, s⟩) rfl rfl 116 (elArr ⟨91, false, G.none'⟩) (((hx'.out.only ho2'.out (by omega)).alloc (.cells Tryz.zeroCells114 114)).rowOther (g' := w'.heap.size) (by have := ho2'.out.size; omega) (setArr s)) (sizeEl' ⟨0, false, s⟩) (by rw [size_elArr, size_elArr]) (one_elArr ⟨0, false, s⟩) ?_))
              · go_ret2
                have hz2 := ho2'.out.size
                refine ⟨.slice none 0 0, false, rfl, (((ho'.out.step ho1'.out fun i hi => ?_).trans ho2'.out).alloc _).setRow (.inr (by omega)) _, fun _ => ?_, fun e => by cases e⟩
                · rcases hi with hi | hi
                  · exact .inl hi
                  · exact .inr (by omega)
                · rw [hgo'.out, hdr2'.out]; exact hdone'.out.2 rfl acc
              · go_meet
                case rel =>
                  have hz2 := ho2'.out.size
                  refine ⟨rfl, G.setEl s, a2, by omega, by omega, (((hx'.out.only ho2'.out (by omega)).alloc _).rowOther (by omega) _).row _, ((hr2'.out.alloc _).rowOther (by have := hr2'.out.lt; omega) _).rowOther (by omega) _, ?_, ?_⟩
                  · exact (((ho1'.out.step ho2'.out fun i hi => .inl (.inl hi)).alloc _).setRow (.inl (.inr (by omega))) _).setRow (.inl (.inr (Nat.le_refl _))) _
                  · rw [hdr2'.out]; exact hdone'.out.1 rfl acc
            have b4 : ((c : Int) == 91) = false := by rw [beq_eq_false_iff_ne]; omega
            have hc126 : c < 127 := by
              have := hall'.out c (List.mem_of_getElem? hpk'.out)
              simp only [G.pr, Bool.and_eq_true, decide_eq_true_eq] at this
              omega
            obtain ⟨v0, hv0⟩ : ∃ v, wa.cell? ⟨wb.heap.size, 2 + c, none⟩ = some v := ⟨_, (hx'.out.cell (2 + c)).trans (elArr_set _ c hc126)⟩
            have fx := hx'.out.frozen (2 + c)
            go_wp2_with fail
            go_meet
            case rel =>
              refine ⟨rfl, G.litEl c, k + 1, by omega, by omega, ?_, hr'.out.other (by simp; omega) _, ho1'.out.setCell (.inl (.inr (Nat.le_refl _))) _, ?_⟩
              · have := hx'.out.store (2 + c) (.bool true)
                rw [elArr_upd] at this
                exact this
              · rw [hdr'.out, ← hr0'.out, G.go_lit _ _ _ e1 e2 e3 e4]
          case rest =>
            obtain ⟨rfl, x, k2, hk2, hk2', hx2, hr2, ho2, hgo2⟩ := hcut
            clear hx' hr' ho1' hdr' hr0' hpk'
            obtain ⟨init, last, vi, vl, B1, hacc, g1, h2, g3, h4, g4, g5⟩ := ha'.out
            clear ha'
            subst hacc
            have hnn : ∀ {B' : Nat} {e : TypeId} {size n : Nat} {u : Value} {xs : List Value}, w.heap.size ≤ B' → wb.ownsRow B' e size u n xs → ∀ g, u.ownBlock = some g → ¬ (g = rb ∨ wb.heap.size ≤ g) := fun hB hu g hg hs => by
              have := hu.lt g hg
              omega
            have hvx : ∀ q, vl.ownBlock = some q → q < wb.heap.size := fun q hq => (g5.lt q hq).2
            have h1 := own_only g1 ho2 (hnn (Nat.le_refl _) g1)
            have h5 : Row wc B1 vl last := own_only g5 ho2 (hnn h4 g5)
            have h3 : ∀ (i : Nat) (a : List G.El), init[i]? = some a → ∃ u, vi[i]? = some u ∧ Row wc w.heap.size u a ∧ ∀ g, u.ownBlock = some g → g < B1 := fun i a hi => by
              obtain ⟨u, hu, hr, hg⟩ := g3 i a hi
              exact ⟨u, hu, own_only hr ho2 (hnn (Nat.le_refl _) hr), hg⟩
            have h4' : B1 ≤ wc.heap.size := Nat.le_trans g4 ho2.size
            clear g1 g3 g4 g5 hnn
            have hlen : (init ++ [last]).length = init.length + 1 := by simp
            rw [hlen] at h1
            obtain ⟨g, cap, hu4, hgB, hglt⟩ := h1.form (by omega)
            subst hu4
            have hcl : wc.cell? ⟨g, init.length, none⟩ = some vl := by
              rw [h1.cellAt init.length (by omega), ← h2, List.getElem?_append_right (Nat.le_refl _)]
              simp
            have hfr := h1.frozenAt init.length
            have hrx : wc.rangeAt wb.heap.size 0 (elL x) := hx2.range 0 _ fun j v hv => by simpa [elL] using hv
            have hvg : some g ≠ vl.ownBlock := fun e => own_ne h5 h1 (by decide) g e.symm rfl
            have hgx1 := hx2.lt
            have hin : init.length + 1 ≤ 257 := by rw [← hlen]; omega
            have hln : last.length ≤ 256 := by have := hn2'.out last (by simp); omega
            have hze := size_elArr x
            obtain ⟨j0, hj0, hj1, hj2, hj3⟩ := info_parts info_el
            have h1' := Lib.hid h1; clear h1
            have h2' := Lib.hid h2; clear h2
            have h3' := Lib.hid h3; clear h3
            have h5' := Lib.hid h5; clear h5
            have hx' := Lib.hid hx2; clear hx2
            have hr' := Lib.hid hr2; clear hr2
            have ho2' := Lib.hid ho2; clear ho2
            have hgo2' := Lib.hid hgo2; clear hgo2
            have hlen' := Lib.hid hlen; clear hlen
            have hwr : IntKind.i64.wrap (init.length : Int) = (init.length : Int) := IntWalk.i64_in _ (by omega)
            have hi1 : (0 : Int) ≤ (init.length : Int) := by omega
            have hi2 : (init.length : Int) < (init.length : Int) + 1 := by omega
            obtain ⟨wx, rfl⟩ : ∃ y : World, y = wc := ⟨_, rfl⟩
            go_wp2_with fail
            have hH := Held.mk' hcl hfr hrx
            have hH' := Lib.hid hH; clear hH hcl hfr hrx
            have hF1 := hH'.out.2.2.1
            have hF2 := hH'.out.2.2.2
            have hcl := hH'.out.1
            have hfr := hH'.out.2.1
            have own1 : (wx.alloc (.cells (elArr x) 116)).drew.ownsRow B1 116 129 vl last.length (flat last) := (h5'.out.alloc _).drew
            have news1 : ∀ j u, (elL x)[j]? = some u → (wx.alloc (.cells (elArr x) 116)).drew.cell? ((⟨wx.heap.size, 0, none⟩ : Addr).add j) = some u := World.news_of_block (w := wx.alloc (.cells (elArr x) 116)) (cs := elArr x) (t := 116) (fr := (0, 0)) (heap_alloc_new _ _)
            have len1 : (elL x).length = 1 * 129 := by rw [length_elL]
            have max1 : last.length + 1 ≤ maxLen := by simp only [maxLen]; omega
            have base1 : B1 ≤ (wx.alloc (.cells (elArr x) 116)).drew.heap.size := by simp; omega
            have size1 : (wx.alloc (.cells (elArr x) 116)).drew.heap.size = wx.heap.size + 1 := by simp
            have grow1 : ∀ w1 : World, (wx.alloc (.cells (elArr x) 116)).drew.grownBy w1 vl.ownBlock → Held w1 g init.length vl wb.heap.size x := fun w1 hg1 => Held.grown (w := (wx.alloc (.cells (elArr x) 116)).drew) (Held.alloc (w := wx) hH'.out _) hg1 hvg hvx
            have own1' := Lib.hid own1; clear own1
            have news1' := Lib.hid news1; clear news1
            have len1' := Lib.hid len1; clear len1
            have size1' := Lib.hid size1; clear size1
            have grow1' := Lib.hid grow1; clear grow1
            go_region_law (refine step_append_lies ((wx.alloc (.cells (elArr x) 116)).drew) (by rfl) (.tmp 75) (.tmp 77) 103 (by rfl) B1 116 j0 (.agg (elArr ⟨0, false, G.none'⟩)) 129 129 Tryz.underlying103 hj0 hj1 hj2 hj3 (size_elArr _) (Nat.zero_lt_succ _) vl last.length (flat last) (by simp [Act.eval]) own1'.out ⟨wx.heap.size, 0, none⟩ 1 1 (elL x) (by simp [Act.eval]) len1'.out news1'.out (one_elL x) (Nat.zero_lt_succ _) max1 (by omega) base1 (wx.heap.size + 1) size1'.out ?_; intro gg cap2 w1 hown1 hgrow hat hlt1; have q0 := grow1'.out w1 hgrow; have q1 := q0.1; have q2 := q0.2.1; clear q0)
            all_goals clear hF1 hF2 hcl hfr q1 q2
            all_goals
              have hb1 : Below wx.heap.size wx (wx.alloc (.cells (elArr x) 116)).drew := ((Below.refl _ _).alloc (Nat.le_refl _) _).drew
              have hfin := acc_more h1'.out h2'.out h3'.out h4 h4' h5'.out hb1 hown1 hgrow
              obtain ⟨hacc, honly⟩ := hfin
              have hne1 := own_blk_ne' h5'.out hr'.out (by decide)
              have hne2 : rb ≠ g := by omega
              have hrf := (((hr'.out.alloc (.cells (elArr x) 116)).drew).only (only_grown hgrow) hne1).other (p := ⟨g, init.length, none⟩) hne2 (.slice (some ⟨gg, 0, none⟩) (last.length + 1) cap2)
              have hacc' := Lib.hid hacc; clear hacc
              have honly' := Lib.hid honly; clear honly
              have hrf' := Lib.hid hrf; clear hrf
              go_wp2_with fail
              go_roundw
              case rel =>
                refine ⟨k2, G.app (init ++ [last]) x, hk2', ?_, fun a ha => ?_, hrf'.out, ?_, ?_, ?_⟩
                · rw [app_init]; simp; rw [hlen'.out] at hn1; omega
                · rw [app_init, List.mem_append] at ha
                  rcases ha with ha | ha
                  · have := hn2'.out a (List.mem_append_left _ ha); omega
                  · simp only [List.mem_singleton] at ha
                    subst ha
                    have := hn2'.out last (by simp)
                    simp; omega
                · rw [app_init]; exact hacc'.out
                · refine ((ho'.out.step ho2'.out fun i hi => ?_).step honly'.out fun i hi => .inr (by omega))
                  rcases hi with hi | hi
                  · exact .inl hi
                  · exact .inr (by omega)
                · rw [hgo'.out]; exact hgo2'.out
              case measure =>
                rw [placeOf_blk hrf'.out, hpl'.out]
                omega
    · obtain rfl : k = p.size := by omega
      have hfin : G.go .out [[]] (bs p) = some acc := by
        rw [hgo'.out, List.drop_eq_nil_of_le (by rw [length_bs]; exact Nat.le_refl _)]
        simp [G.go]
      have hfin' := Lib.hid hfin; clear hfin
      go_wp2_with fail
      go_quiet (fail)
      go_wp2_with fail
      go_ret2
      exact ⟨l4, true, rfl, ho'.out.drewN _, (fun e => by cases e), fun _ => ⟨acc, hfin'.out, (ha'.out.only (S := fun _ => False) ((Only.refl _ _).drewN _) fun _ h => h.elim).alts, by omega, fun a ha => by have := hn2'.out a ha; omega⟩⟩

end Go.Proofs.YtinjeijjfkkhbaaGreatDoor

namespace Go.Proofs.YtinjeijjfkkhbaaGreatDoor
open Go.RowKit

/-- The error code of a pattern: 0, 20 (form), 21 (limit). -/
def errS (l : List Nat) : Int := if 256 < l.length then 21 else if (G.alts l).isSome then 0 else 20

theorem alts_long {l : List Nat} (h : 256 < l.length) : G.alts l = none := by
  unfold G.alts
  rw [if_neg]
  rintro ⟨h1, _⟩
  omega
theorem alts_bad {l : List Nat} (h : l.all G.pr = false) : G.alts l = none := by
  unfold G.alts
  rw [if_neg]
  rintro ⟨_, h1⟩
  rw [h] at h1
  cases h1
theorem alts_go {l : List Nat} (h : l.length ≤ 256) (h1 : l.all G.pr = true) : G.alts l = G.go .out [[]] l := by
  unfold G.alts
  rw [if_pos ⟨h, h1⟩]

theorem alts_mono {w : World} {B B' : Nat} {v : Value} {l : List (List G.El)} (h : Alts w B v l) (hB : B' ≤ B) : Alts w B' v l := by
  obtain ⟨vs, h1, h2⟩ := h
  exact ⟨vs, own_mono h1 hB, fun i a hi => by
    obtain ⟨u, hu, hr⟩ := h2 i a hi
    exact ⟨u, hu, own_mono hr hB⟩⟩

/-- What 'parse' answers, and what it leaves. -/
def ParsePost (p : ByteArray) (w : World) (e : Ending) (w' : World) : Prop :=
  ∃ v, e = .returned (.tuple #[v, .int .i64 (errS (bs p))]) ∧ Below w.heap.size w w' ∧ ∀ l, G.alts (bs p) = some l → Alts w' w.heap.size v l ∧ l.length ≤ 257 ∧ ∀ a, a ∈ l → a.length ≤ 256

set_option maxHeartbeats 1000000 in
theorem parse_any (p : ByteArray) (w : World) (hsz : p.size ≤ 9223372036854775807) : Calls Tryz.prog 61 #[.string p] w (ParsePost p w) := by
  by_cases h1 : 256 < p.size
  · have he : errS (bs p) = 21 := by unfold errS; rw [if_pos (by rw [length_bs]; exact h1)]
    have ha : G.alts (bs p) = none := alts_long (by rw [length_bs]; exact h1)
    have he' := Lib.hid he; clear he
    have ha' := Lib.hid ha; clear ha
    go_enter Tryz.func61, Tryz.ntmps61
    go_wp2_with fail
    go_ret2
    exact ⟨.slice none 0 0, by rw [he'.out]; rfl, Below.refl _ _, fun l hl => by rw [ha'.out] at hl; cases hl⟩
  · cases h2 : textB p with
    | false =>
      have hp : (bs p).all G.pr = false := by
        unfold textB at h2
        rw [decide_eq_true (by omega), Bool.and_true] at h2
        exact h2
      have ha : G.alts (bs p) = none := alts_bad hp
      have he : errS (bs p) = 20 := by unfold errS; rw [if_neg (by rw [length_bs]; exact h1), ha]; rfl
      have he' := Lib.hid he; clear he
      have ha' := Lib.hid ha; clear ha hp
      have ht : Calls Tryz.prog 76 #[.string p] w fun e w' => e = .returned (.bool false) ∧ w = w' := by rw [← h2]; exact text_any p w (by omega)
      have ht' := Lib.hid ht; clear ht h2
      go_enter Tryz.func61, Tryz.ntmps61
      go_wp2_with (go_at_call 76; refine ht'.out.mono ?_; rintro e w' ⟨rfl, rfl⟩)
      go_ret2
      exact ⟨.slice none 0 0, by rw [he'.out]; rfl, Below.refl _ _, fun l hl => by rw [ha'.out] at hl; cases hl⟩
    | true =>
      have hp : (bs p).all G.pr = true := by
        unfold textB at h2
        rw [decide_eq_true (by omega), Bool.and_true] at h2
        exact h2
      have ha := alts_go (l := bs p) (by rw [length_bs]; omega) hp
      have hall : ∀ x, x ∈ bs p → G.pr x = true := by rw [List.all_eq_true] at hp; exact hp
      have he : ∀ ok : Bool, (G.alts (bs p)).isSome = ok → errS (bs p) = if ok then 0 else 20 := fun ok h => by unfold errS; rw [if_neg (by rw [length_bs]; exact h1), h]
      have he' := Lib.hid he; clear he
      have ha' := Lib.hid ha; clear ha hp
      have hall' := Lib.hid hall; clear hall
      have ht : Calls Tryz.prog 76 #[.string p] w fun e w' => e = .returned (.bool true) ∧ w = w' := by rw [← h2]; exact text_any p w (by omega)
      have ht' := Lib.hid ht; clear ht h2
      go_enter Tryz.func61, Tryz.ntmps61
      go_wp2_with (first
        | (go_at_call 76; refine ht'.out.mono ?_; rintro e w' ⟨rfl, rfl⟩)
        | (go_at_call 77; refine (alternatives_any p w.heap.size _ (Blk.new w _ _) (by omega) hall'.out).mono ?_; intro e w' hpost; obtain ⟨v, ok, rfl, ho, hno, hyes⟩ := hpost; have ho' := Lib.hid ho; clear ho; have hno' := Lib.hid hno; clear hno; have hyes' := Lib.hid hyes; clear hyes; cases ok))
      · have hn := hno'.out trivial
        go_ret2
        refine ⟨.slice none 0 0, ?_, ?_, fun l hl => ?_⟩
        · rw [he'.out false (by rw [ha'.out, hn]; rfl)]; rfl
        · exact ((Below.refl _ _).alloc (Nat.le_refl _) _).trans (ho'.out.below (fun k hk => by omega) (by simp))
        · rw [ha'.out, hn] at hl; cases hl
      · obtain ⟨l, hl, hal, hb1, hb2⟩ := hyes'.out trivial
        go_ret2
        refine ⟨v, ?_, ?_, fun l2 hl2 => ?_⟩
        · rw [he'.out true (by rw [ha'.out, hl]; rfl)]; rfl
        · exact ((Below.refl _ _).alloc (Nat.le_refl _) _).trans (ho'.out.below (fun k hk => by omega) (by simp))
        · rw [ha'.out, hl] at hl2
          cases hl2
          exact ⟨alts_mono hal (by simp), hb1, hb2⟩


end Go.Proofs.YtinjeijjfkkhbaaGreatDoor
