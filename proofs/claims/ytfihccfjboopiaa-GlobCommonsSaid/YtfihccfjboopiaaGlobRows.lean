/-
  HOW THE PACKAGE glob KEEPS ITS ALTERNATIVES IN MEMORY: slices of elements in a slice.
-/
import Derived.Test.YtfihccfjboopiaaGlobMem
import Derived.Great.BuildSlice
namespace Go.Proofs.Ytfihccfjboopiaa
open Go.RowKit

/-- A struct built out of one part. -/
theorem wpList_build_one {P : Program} {ops : Array Oper} {rest : List Oper} {o : Oper} {a : Act} {w : World} {Q : Exit → Act → World → Prop} (hg : o.guard = none) (t : TypeId) (i : Nat) (x : Operand) (ho : o.op = .build t #[(i, x)])
    (v : Value) (hv : a.eval x = v) (cells : Array Value) (hb : P.built t [(i, v)] = some cells)
    (h : wpList P ops Q rest (a.put o.dst (.agg cells)) w) : wpList P ops Q (o :: rest) a w := by
  refine wpList_build_to hg t #[(i, x)] ho cells ?_ h
  rw [← hb, ← hv]
  rfl

/-- An element's cells as a list; the cells of a list of elements. -/
def elL (x : G.El) : List Value := (elArr x).toList
theorem length_elL (x : G.El) : (elL x).length = 129 := by simp [elL, size_elArr]
theorem elL_arr (x : G.El) : (elL x).toArray = elArr x := by simp [elL]
theorem one_elL (x : G.El) : ∀ v ∈ elL x, v.oneCell' = true := by
  intro v hv
  have := one_elArr x
  rw [Array.all_eq_true_iff_forall_mem] at this
  exact this v (by simpa [elL] using hv)
def flat : List G.El → List Value
  | [] => []
  | x :: l => elL x ++ flat l
theorem flat_app (l : List G.El) (x : G.El) : flat (l ++ [x]) = flat l ++ elL x := by
  induction l with
  | nil => simp [flat]
  | cons a l ih => simp [flat, ih]
theorem flat_get : ∀ (l : List G.El) (k i : Nat) (x : G.El), l[k]? = some x → i < 129 → (flat l)[k * 129 + i]? = (elL x)[i]?
  | [], k, i, x, h, _ => by cases h
  | a :: l, 0, i, x, h, hi => by
    simp at h
    subst h
    rw [flat, List.getElem?_append_left (by rw [length_elL]; omega)]
    simp
  | a :: l, k + 1, i, x, h, hi => by
    rw [flat, List.getElem?_append_right (by rw [length_elL]; omega), length_elL]
    have := flat_get l k i x (by simpa using h) hi
    rw [show (k + 1) * 129 + i - 129 = k * 129 + i from by omega]
    exact this

/-- A value that is a slice of these elements, in memory from block B on. -/
def Row (w : World) (B : Nat) (v : Value) (l : List G.El) : Prop := w.ownsRow B 118 129 v l.length (flat l)

theorem own_only {S : Nat → Prop} {w w' : World} {B : Nat} {e : TypeId} {size n : Nat} {v : Value} {xs : List Value} (h : w.ownsRow B e size v n xs) (ho : Only S w w') (hS : ∀ g, v.ownBlock = some g → ¬ S g) : w'.ownsRow B e size v n xs := by
  refine ⟨h.1, ?_⟩
  rcases h.2 with hn | ⟨g, cap, cur, rfl, hb, hg, rest⟩
  · exact .inl hn
  · refine .inr ⟨g, cap, cur, rfl, hb, ?_, rest⟩
    rw [ho.block g (Array.getElem?_eq_some_iff.1 hg).1 (hS g rfl)]
    exact hg
theorem own_mono {w : World} {B B' : Nat} {e : TypeId} {size n : Nat} {v : Value} {xs : List Value} (h : w.ownsRow B e size v n xs) (hB : B' ≤ B) : w.ownsRow B' e size v n xs := by
  refine ⟨h.1, ?_⟩
  rcases h.2 with hn | ⟨g, cap, cur, rfl, hb, rest⟩
  · exact .inl hn
  · exact .inr ⟨g, cap, cur, rfl, by omega, rest⟩
/-- Two rows of different element types lie in different blocks. -/
theorem own_ne {w : World} {B B' : Nat} {e e' : TypeId} {size n size' n' : Nat} {v v' : Value} {xs xs' : List Value} (h : w.ownsRow B e size v n xs) (h' : w.ownsRow B' e' size' v' n' xs') (hne : e ≠ e') :
    ∀ g, v.ownBlock = some g → v'.ownBlock ≠ some g := by
  intro g hg hg'
  rcases h.2 with ⟨rfl, _⟩ | ⟨k, cap, cur, rfl, _, hk, _⟩
  · cases hg
  · rcases h'.2 with ⟨rfl, _⟩ | ⟨k', cap', cur', rfl, _, hk', _⟩
    · cases hg'
    · simp only [Value.ownBlock, Option.some.injEq] at hg hg'
      subst hg hg'
      rw [hk] at hk'
      injection hk' with h1
      injection h1 with _ h2
      exact hne h2
theorem own_blk_ne' {w : World} {B : Nat} {e : TypeId} {size n g : Nat} {v : Value} {xs : List Value} {t : TypeId} {cs : Array Value} (h : w.ownsRow B e size v n xs) (hg : Blk w g t cs) (hne : e ≠ t) : v.ownBlock ≠ some g := by
  intro he
  rcases h.2 with ⟨rfl, _⟩ | ⟨k, cap, cur, rfl, _, hk, _⟩
  · cases he
  · simp only [Value.ownBlock, Option.some.injEq] at he
    subst he
    exact Blk.ne_ (w := w) (g := k) (t := e) (cs := cur) hk hg hne rfl

/-- The alternatives of a pattern, in memory from block B on: to be read. -/
def Alts (w : World) (B : Nat) (v : Value) (l : List (List G.El)) : Prop :=
  ∃ vs : List Value, w.ownsRow B 67 1 v l.length vs ∧ ∀ (i : Nat) (a : List G.El), l[i]? = some a → ∃ u, vs[i]? = some u ∧ Row w B u a

/-- The alternatives that are being read: the last one may still grow. -/
def AccIn (w : World) (B : Nat) (v : Value) (acc : List (List G.El)) : Prop :=
  ∃ (init : List (List G.El)) (last : List G.El) (vi : List Value) (vl : Value) (B1 : Nat), acc = init ++ [last] ∧ w.ownsRow B 67 1 v acc.length (vi ++ [vl]) ∧ vi.length = init.length ∧
    (∀ (i : Nat) (a : List G.El), init[i]? = some a → ∃ u, vi[i]? = some u ∧ Row w B u a ∧ ∀ g, u.ownBlock = some g → g < B1) ∧ B ≤ B1 ∧ B1 ≤ w.heap.size ∧ Row w B1 vl last

theorem app_init (init : List (List G.El)) (last : List G.El) (x : G.El) : G.app (init ++ [last]) x = init ++ [last ++ [x]] := by
  induction init with
  | nil => rfl
  | cons a r ih =>
    cases r with
    | nil => rfl
    | cons b r => simp only [List.cons_append] at ih ⊢; rw [G.app]; exact congrArg (a :: ·) ih

theorem AccIn.alts {w : World} {B : Nat} {v : Value} {acc : List (List G.El)} (h : AccIn w B v acc) : Alts w B v acc := by
  obtain ⟨init, last, vi, vl, B1, rfl, h1, h2, h3, h4, _, h5⟩ := h
  refine ⟨_, h1, fun i a hi => ?_⟩
  rcases Nat.lt_or_ge i init.length with hl | hl
  · rw [List.getElem?_append_left hl] at hi
    obtain ⟨u, hu, hr, _⟩ := h3 i a hi
    exact ⟨u, by rw [List.getElem?_append_left (by omega)]; exact hu, hr⟩
  · rw [List.getElem?_append_right hl] at hi
    have : i - init.length = 0 := by
      rcases Nat.eq_zero_or_pos (i - init.length) with h0 | h0
      · exact h0
      · rw [List.getElem?_eq_none (by simp; omega)] at hi; cases hi
    rw [this] at hi
    simp at hi
    subst hi
    refine ⟨vl, ?_, own_mono h5 h4⟩
    rw [List.getElem?_append_right (by omega), h2, this]
    rfl
theorem AccIn.only {S : Nat → Prop} {w w' : World} {B : Nat} {v : Value} {acc : List (List G.El)} (h : AccIn w B v acc) (ho : Only S w w') (hS : ∀ k, S k → k < B) : AccIn w' B v acc := by
  obtain ⟨init, last, vi, vl, B1, rfl, h1, h2, h3, h4, h4', h5⟩ := h
  have hn : ∀ {B' : Nat} {e : TypeId} {size n : Nat} {u : Value} {xs : List Value}, B ≤ B' → w.ownsRow B' e size u n xs → ∀ g, u.ownBlock = some g → ¬ S g := fun hB hu g hg hs => by
    have := (hu.lt g hg).1
    have := hS g hs
    omega
  exact ⟨init, last, vi, vl, B1, rfl, own_only h1 ho (hn (Nat.le_refl _) h1), h2, fun i a hi => by
    obtain ⟨u, hu, hr, hg⟩ := h3 i a hi
    exact ⟨u, hu, own_only hr ho (hn (Nat.le_refl _) hr), hg⟩, h4, Nat.le_trans h4' ho.size, own_only h5 ho (hn h4 h5)⟩
/-- A later world: only the reader's block and what is newer has turned. -/
theorem AccIn.later {w w' : World} {B rb : Nat} {v : Value} {acc : List (List G.El)} (h : AccIn w B v acc) (ho : Only (fun k => k = rb ∨ w.heap.size ≤ k) w w') (hrb : rb < B) : AccIn w' B v acc := by
  obtain ⟨init, last, vi, vl, B1, rfl, h1, h2, h3, h4, h4', h5⟩ := h
  have hn : ∀ {B' : Nat} {e : TypeId} {size n : Nat} {u : Value} {xs : List Value}, B ≤ B' → w.ownsRow B' e size u n xs → ∀ g, u.ownBlock = some g → ¬ (g = rb ∨ w.heap.size ≤ g) := fun hB hu g hg hs => by
    have := hu.lt g hg
    omega
  exact ⟨init, last, vi, vl, B1, rfl, own_only h1 ho (hn (Nat.le_refl _) h1), h2, fun i a hi => by
    obtain ⟨u, hu, hr, hg⟩ := h3 i a hi
    exact ⟨u, hu, own_only hr ho (hn (Nat.le_refl _) hr), hg⟩, h4, Nat.le_trans h4' ho.size, own_only h5 ho (hn h4 h5)⟩
theorem Alts.only {S : Nat → Prop} {w w' : World} {B : Nat} {v : Value} {l : List (List G.El)} (h : Alts w B v l) (ho : Only S w w') (hS : ∀ k, S k → k < B) : Alts w' B v l := by
  obtain ⟨vs, h1, h2⟩ := h
  have hn : ∀ {e : TypeId} {size n : Nat} {u : Value} {xs : List Value}, w.ownsRow B e size u n xs → ∀ g, u.ownBlock = some g → ¬ S g := fun hu g hg hs => by
    have := (hu.lt g hg).1
    have := hS g hs
    omega
  exact ⟨vs, own_only h1 ho (hn h1), fun i a hi => by
    obtain ⟨u, hu, hr⟩ := h2 i a hi
    exact ⟨u, hu, own_only hr ho (hn hr)⟩⟩
theorem only_grown {w w' : World} {row : Option Nat} (h : w.grownBy w' row) : Only (fun k => row = some k) w w' := ⟨h.os, h.tape, h.output, h.size, fun k hk hn => h.block k hk fun e => hn e.symm⟩

/-- A slice's cells are one list. -/
theorem own_unique {w : World} {B B' : Nat} {e e' : TypeId} {size n : Nat} {v : Value} {xs xs' : List Value} (h : w.ownsRow B e size v n xs) (h' : w.ownsRow B' e' size v n xs') : xs = xs' := by
  rcases h.2 with ⟨rfl, h0⟩ | ⟨k, cap, cur, rfl, _, hk, _, _, _, ht⟩
  · subst h0
    have a : xs = [] := List.eq_nil_of_length_eq_zero (by simpa using h.1)
    have b : xs' = [] := List.eq_nil_of_length_eq_zero (by simpa using h'.1)
    rw [a, b]
  · rcases h'.2 with ⟨hv, _⟩ | ⟨k', cap', cur', hv, _, hk', _, _, _, ht'⟩
    · cases hv
    · cases hv
      rw [hk] at hk'
      cases hk'
      rw [← ht, ← ht']
theorem AccIn.outer {w : World} {B : Nat} {v : Value} {acc : List (List G.El)} (h : AccIn w B v acc) : ∃ vs, w.ownsRow B 67 1 v acc.length vs := by
  obtain ⟨init, last, vi, vl, B1, rfl, h1, _⟩ := h
  exact ⟨_, h1⟩

/-- Behind 'l = append(l, nil)'. -/
theorem AccIn.bar {w w' : World} {B : Nat} {v v' : Value} {acc : List (List G.El)} (h : AccIn w B v acc) {vs : List Value} (hvs : w.ownsRow B 67 1 v acc.length vs) (hown' : w'.ownsRow B 67 1 v' (acc.length + 1) (vs ++ [.slice none 0 0])) (hg : w.grownBy w' v.ownBlock) :
    AccIn w' B v' (acc ++ [[]]) := by
  have hown : ∀ xs : List Value, w.ownsRow B 67 1 v acc.length xs → w'.ownsRow B 67 1 v' (acc.length + 1) (xs ++ [.slice none 0 0]) := fun xs hx => by rw [own_unique hx hvs]; exact hown'
  clear hown' hvs
  obtain ⟨init, last, vi, vl, B1, rfl, h1, h2, h3, h4, h4', h5⟩ := h
  have ho := only_grown hg
  have ne : (118 : Nat) ≠ 67 := by decide
  refine ⟨init ++ [last], [], vi ++ [vl], .slice none 0 0, w'.heap.size, rfl, by simpa using hown _ h1, by simp [h2], fun i a hi => ?_, Nat.le_trans (Nat.le_trans h4 h4') hg.size, Nat.le_refl _, World.ownsRow_nil _ _ _ _⟩
  rcases Nat.lt_or_ge i init.length with hl | hl
  · rw [List.getElem?_append_left hl] at hi
    obtain ⟨u, hu, hr, hb⟩ := h3 i a hi
    exact ⟨u, by rw [List.getElem?_append_left (by omega)]; exact hu, own_only hr ho (fun g hg' e => own_ne hr h1 ne g hg' e), fun g hg' => by have := hb g hg'; have := hg.size; omega⟩
  · rw [List.getElem?_append_right hl] at hi
    have h0 : i - init.length = 0 := by
      rcases Nat.eq_zero_or_pos (i - init.length) with h0 | h0
      · exact h0
      · rw [List.getElem?_eq_none (by simp; omega)] at hi; cases hi
    rw [h0] at hi
    simp at hi
    subst hi
    refine ⟨vl, by rw [List.getElem?_append_right (by omega), h2, h0]; rfl, own_only (own_mono h5 h4) ho (fun g hg' e => own_ne h5 h1 ne g hg' e), fun g hg' => ?_⟩
    have := (h5.lt g hg').2
    have := hg.size
    omega

/-! A WHOLE ELEMENT READ IN A REGION THAT DRAWS ITS ORDER: its cells as a function of the world. -/
def full (w : World) (g n : Nat) : Bool := (List.range n).all fun i => (w.cell? ⟨g, i, none⟩).isSome
def cellsAt (w : World) (g n : Nat) : Array Value := Array.ofFn (n := n) fun i => (w.cell? ⟨g, i.val, none⟩).getD undef
theorem row_of_range {w : World} {g n : Nat} {L : List Value} (h : w.rangeAt g 0 L) (hn : L.length = n) : full w g n = true ∧ cellsAt w g n = L.toArray := by
  subst hn
  constructor
  · unfold full
    rw [List.all_eq_true]
    intro i hi
    have := h i (L[i]'(by simpa using hi)) (List.getElem?_eq_getElem (by simpa using hi))
    simp only [Nat.zero_add] at this
    rw [this]; rfl
  · unfold cellsAt
    apply Array.ext
    · simp
    · intro i h1 h2
      have := h i (L[i]'(by simpa using h2)) (List.getElem?_eq_getElem (by simpa using h2))
      simp only [Nat.zero_add] at this
      simp [this]
theorem range_of_row {w : World} {g n : Nat} {L : List Value} (h1 : full w g n = true) (h2 : cellsAt w g n = L.toArray) (hn : L.length = n) : w.rangeAt g 0 L := by
  subst hn
  intro j v hv
  have hj : j < L.length := (List.getElem?_eq_some_iff.1 hv).1
  unfold full at h1
  rw [List.all_eq_true] at h1
  have := h1 j (by simpa using hj)
  obtain ⟨u, hu⟩ := Option.isSome_iff_exists.1 this
  have h3 : (cellsAt w g L.length)[j]? = L.toArray[j]? := by rw [h2]
  unfold cellsAt at h3
  simp [hj, hu] at h3
  rw [Nat.zero_add, hu, ← hv, h3, List.getElem?_eq_getElem hj]
theorem size_cellsAt (w : World) (g n : Nat) : (cellsAt w g n).size = n := Array.size_ofFn
theorem range_cells {w : World} {g n : Nat} (h : full w g n = true) : w.rangeAt g 0 (cellsAt w g n).toList := by
  have : (cellsAt w g n).toList.length = n := (Array.length_toList).trans (size_cellsAt w g n)
  exact range_of_row (n := n) h (by simp) this
theorem full_drew (w : World) (g n : Nat) : full w.drew g n = full w g n := rfl
theorem cellsAt_drew (w : World) (g n : Nat) : cellsAt w.drew g n = cellsAt w g n := rfl
theorem full_alloc (w : World) (g n : Nat) (o : Obj) (h : g < w.heap.size) : full (w.alloc o) g n = full w g n := by
  unfold full
  congr 1
  funext i
  rw [World.cell?_alloc_lt _ _ _ h]
theorem cellsAt_alloc (w : World) (g n : Nat) (o : Obj) (h : g < w.heap.size) : cellsAt (w.alloc o) g n = cellsAt w g n := by
  unfold cellsAt
  congr 1
  funext i
  rw [World.cell?_alloc_lt _ _ _ h]
theorem load_el (g : Nat) (w : World) (h : full w g 129 = true) : (Instr.loadAt 118 (.pointer (some ⟨g, 0, none⟩))).run Try.prog w = .ok (.agg (cellsAt w g 129)) w := by
  have := run_loadAt_mid (P := Try.prog) w g 0 118 (cellsAt w g 129).toList _ (range_cells h) Try.underlying118 rfl (by
    have : (cellsAt w g 129).toList.length = 129 := (Array.length_toList).trans (size_cellsAt w g 129)
    rw [this]; exact sizeEl)
  rwa [Array.toArray_toList] at this

/-! THE SAME TWO STEPS AT THE LEVEL OF THE WHOLE OPERATION, for the walk inside a region that draws its order. -/
def thatRun (P : Program) (ev : Operand → Value) (o : Oper) (w : World) : Result Next := Sem.run P (execOp ev o) w
def loadRow (v : Value) (w : World) (els : Result Next) : Result Next := match v with
  | .pointer (some ⟨g, 0, none⟩) => if full w g 129 = true then .ok (.value (.agg (cellsAt w g 129))) w else els
  | _ => els
theorem loadRow_ptr (g : Nat) (w : World) (els : Result Next) : loadRow (.pointer (some ⟨g, 0, none⟩)) w els = if full w g 129 = true then .ok (.value (.agg (cellsAt w g 129))) w else els := rfl
theorem load_op (ev : Operand → Value) (d : Option Tmp) (x : Operand) (ty : TypeId) (pos : String) (after : Array Edge) (guard : Option (Nat × Bool)) (w : World) :
    Sem.run Try.prog (execOp ev ⟨d, .load 118 x, ty, pos, after, guard⟩) w = loadRow (ev x) w (thatRun Try.prog ev ⟨d, .load 118 x, ty, pos, after, guard⟩ w) := by
  unfold loadRow
  split
  · rename_i g he
    split
    · rename_i h
      unfold execOp
      simp only [he, Sem.run_bind, load_el g w h, Result.andThen_ok]
      rfl
    · rfl
  · rfl

theorem foldl_set : ∀ (l : List Value) (k : Nat) (a : Array Value), k + l.length ≤ a.size →
    (l.zipIdx k).foldl (fun cs x => cs.setIfInBounds x.2 x.1) a = (a.toList.take k ++ l ++ a.toList.drop (k + l.length)).toArray
  | [], k, a, _ => by simp
  | v :: l, k, a, h => by
    rw [List.zipIdx_cons, List.foldl_cons]
    simp only [List.length_cons] at h
    rw [foldl_set l (k + 1) _ (by simp; omega)]
    congr 1
    rw [Array.toList_setIfInBounds]
    have h1 : (a.toList.set k v).take (k + 1) = a.toList.take k ++ [v] := by
      rw [List.take_add_one, List.take_set_of_le (Nat.le_refl _), List.getElem?_set_self (by simp; omega)]
      rfl
    have h2 : (a.toList.set k v).drop (k + 1 + l.length) = a.toList.drop (k + (l.length + 1)) := by
      rw [List.drop_set_of_lt (by omega)]
      congr 1
      omega
    rw [h1, h2]
    simp
theorem fill_one (z cs : Array Value) (n : Nat) (hz : z.size = n) (hc : cs.size = n) : Instr.fill (fun i => some (i * n, n)) z [(0, .agg cs)] = some cs := by
  have hcond : ¬ ((decide ((Value.agg cs).cells.size ≠ n) || decide (0 * n + (Value.agg cs).cells.size > z.size)) = true) := by
    simp [Value.cells, hz, hc]
  simp only [Instr.fill]
  rw [if_neg hcond]
  simp only [Value.cells]
  congr 1
  rw [← Array.foldl_toList, Array.toList_zipIdx]
  have := foldl_set cs.toList 0 z (by simp [hz, hc])
  simp only [Nat.zero_mul, Nat.zero_add] at this ⊢
  have hd : z.toList.drop cs.toList.length = [] := List.drop_eq_nil_of_le (by simp [hz, hc])
  rw [this, hd]
  simp

theorem info_el : (Try.prog.info? 118).map (fun i => (i.zero, i.size, i.bytes)) = some (some (.agg (elArr ⟨0, false, G.none'⟩)), 129, 129) := by kernel_rfl
theorem run_one (cs : Array Value) (h : cs.size = 129) (W : World) : (Instr.buildSlice 67 1 #[(0, .agg cs)]).run Try.prog W = .ok (.slice (some ⟨W.heap.size, 0, none⟩) 1 1) (W.alloc (.cells cs 118)) := by
  obtain ⟨i0, hi0, hz0, hz1, hz2⟩ := info_parts info_el
  refine run_buildSlice W _ _ 1 _ cs i0 _ Try.underlying67 hi0 hz0 (by rw [hz1]; omega) (by rw [hz1]; omega) ?_
  rw [hz1]
  exact fill_one _ _ _ (by simp) h
def oneRow (v : Value) (w : World) (els : Result Next) : Result Next := match v with
  | .agg cs => if cs.size = 129 then .ok (.value (.slice (some ⟨w.heap.size, 0, none⟩) 1 1)) (w.alloc (.cells cs 118)) else els
  | _ => els
theorem oneRow_agg (cs : Array Value) (w : World) (els : Result Next) : oneRow (.agg cs) w els = if cs.size = 129 then .ok (.value (.slice (some ⟨w.heap.size, 0, none⟩) 1 1)) (w.alloc (.cells cs 118)) else els := rfl
theorem one_op (ev : Operand → Value) (d : Option Tmp) (x : Operand) (ty : TypeId) (pos : String) (after : Array Edge) (guard : Option (Nat × Bool)) (w : World) :
    Sem.run Try.prog (execOp ev ⟨d, .buildSlice 67 1 #[(0, x)], ty, pos, after, guard⟩) w = oneRow (ev x) w (thatRun Try.prog ev ⟨d, .buildSlice 67 1 #[(0, x)], ty, pos, after, guard⟩ w) := by
  unfold oneRow
  split
  · rename_i cs he
    split
    · rename_i h
      unfold execOp
      simp only [List.map_toArray, List.map_cons, List.map_nil, he, Sem.run_bind, run_one cs h w, Result.andThen_ok]
      rfl
    · rfl
  · rfl

end Go.Proofs.Ytfihccfjboopiaa
