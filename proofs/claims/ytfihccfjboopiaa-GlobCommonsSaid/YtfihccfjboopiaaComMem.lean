/-
  HOW THE PACKAGE glob KEEPS PLACES AND PAIRS OF PLACES IN MEMORY; the walks of glob.at and glob.next.
-/
import Derived.Test.YtfihccfjboopiaaGlobMatches
import Derived.Test.YtfihccfjboopiaaComPos
import Derived.StillTailTactics
namespace Go.Proofs.Ytfihccfjboopiaa
open Go.RowKit

def plL (a i : Nat) : List Value := [.int .i64 a, .int .i64 i]
def posL (x : G.Pos) : List Value := [.int .i64 x.a, .int .i64 x.i, .int .i64 x.b, .int .i64 x.j]
def plV (a i : Nat) : Value := .agg #[.int .i64 a, .int .i64 i]
def posV (x : G.Pos) : Value := .agg #[.int .i64 x.a, .int .i64 x.i, .int .i64 x.b, .int .i64 x.j]

def zeroEl : G.El := ⟨0, false, G.none'⟩
/-- The element at a place, a bare one behind the end. -/
def elAt (l : List G.El) (i : Nat) : G.El := (l[i]?).getD zeroEl
theorem elAt_lt {l : List G.El} {i : Nat} {x : G.El} (h : l[i]? = some x) : elAt l i = x := by rw [elAt, h]; rfl
theorem elAt_ge {l : List G.El} {i : Nat} (h : l.length ≤ i) : elAt l i = zeroEl := by rw [elAt, List.getElem?_eq_none h]; rfl
theorem zero_elC : Try.zeroCells118 = elArr zeroEl := by kernel_rfl
theorem built_el : Try.prog.built 118 [] = some (elArr zeroEl) := by kernel_rfl

/-- Where the alternative lies. -/
theorem Alts.form {w : World} {B : Nat} {v : Value} {L : List (List G.El)} (h : Alts w B v L) {a : Nat} {l : List G.El} (ha : L[a]? = some l) :
    ∃ g cap u, v = .slice (some ⟨g, 0, none⟩) L.length cap ∧ w.cell? ⟨g, a, none⟩ = some u ∧ Row w B u l := by
  obtain ⟨vs, h1, h2⟩ := h
  have hlt : a < L.length := (List.getElem?_eq_some_iff.1 ha).1
  obtain ⟨g, cap, hv, _, _⟩ := World.ownsRow.form h1 (by omega)
  obtain ⟨u, hu, hr⟩ := h2 a l ha
  subst hv
  refine ⟨g, cap, u, rfl, ?_, hr⟩
  rw [World.ownsRow.cellAt h1 a (by omega)]
  exact hu
theorem Row.range {w : World} {B : Nat} {v : Value} {l : List G.El} (h : Row w B v l) {i : Nat} {x : G.El} (hi : l[i]? = some x) :
    ∃ g cap, v = .slice (some ⟨g, 0, none⟩) l.length cap ∧ w.rangeAt g (i * 129) (elL x) := by
  have hlt : i < l.length := (List.getElem?_eq_some_iff.1 hi).1
  obtain ⟨g, cap, hv, hc⟩ := h.form (by omega)
  refine ⟨g, cap, hv, fun k u hu => ?_⟩
  have hk : k < 129 := by
    have := (List.getElem?_eq_some_iff.1 hu).1
    rw [length_elL] at this
    exact this
  rw [hc i k x hi hk]
  exact hu
theorem Row.len {w : World} {B : Nat} {v : Value} {l : List G.El} (h : Row w B v l) : ∃ p cap, v = .slice p l.length cap := by
  rcases h with ⟨_, ⟨rfl, h0⟩ | ⟨g, cap, cur, rfl, _⟩⟩
  · exact ⟨_, _, by rw [h0]⟩
  · exact ⟨_, _, rfl⟩

/-! A WHOLE ELEMENT READ OUT OF THE MIDST OF A BLOCK IN A REGION THAT DRAWS ITS ORDER: at the level of the whole operation. -/
def fullAt (w : World) (g o n : Nat) : Bool := (List.range n).all fun i => (w.cell? ⟨g, o + i, none⟩).isSome
def cellsFrom (w : World) (g o n : Nat) : Array Value := Array.ofFn (n := n) fun i => (w.cell? ⟨g, o + i.val, none⟩).getD undef
theorem from_range {w : World} {g o n : Nat} {L : List Value} (h : w.rangeAt g o L) (hn : L.length = n) : fullAt w g o n = true ∧ cellsFrom w g o n = L.toArray := by
  subst hn
  constructor
  · unfold fullAt
    rw [List.all_eq_true]
    intro i hi
    have := h i (L[i]'(by simpa using hi)) (List.getElem?_eq_getElem (by simpa using hi))
    rw [this]; rfl
  · unfold cellsFrom
    apply Array.ext
    · simp
    · intro i h1 h2
      have := h i (L[i]'(by simpa using h2)) (List.getElem?_eq_getElem (by simpa using h2))
      simp [this]
theorem range_from {w : World} {g o n : Nat} (h : fullAt w g o n = true) : w.rangeAt g o (cellsFrom w g o n).toList := by
  intro j v hv
  have hj : j < n := by
    have := (List.getElem?_eq_some_iff.1 hv).1
    simpa [cellsFrom] using this
  unfold fullAt at h
  rw [List.all_eq_true] at h
  obtain ⟨u, hu⟩ := Option.isSome_iff_exists.1 (h j (by simpa using hj))
  unfold cellsFrom at hv
  simp [hj, hu] at hv
  rw [hu, hv]
theorem size_from (w : World) (g o n : Nat) : (cellsFrom w g o n).size = n := Array.size_ofFn
def loadFrom (v : Value) (w : World) (els : Result Next) : Result Next := match v with
  | .pointer (some ⟨g, o, none⟩) => if fullAt w g o 129 = true then .ok (.value (.agg (cellsFrom w g o 129))) w else els
  | _ => els
theorem loadFrom_ptr (g o : Nat) (w : World) (els : Result Next) : loadFrom (.pointer (some ⟨g, o, none⟩)) w els = if fullAt w g o 129 = true then .ok (.value (.agg (cellsFrom w g o 129))) w else els := rfl
theorem load_from (g o : Nat) (w : World) (h : fullAt w g o 129 = true) : (Instr.loadAt 118 (.pointer (some ⟨g, o, none⟩))).run Try.prog w = .ok (.agg (cellsFrom w g o 129)) w := by
  have := run_loadAt_mid (P := Try.prog) w g o 118 (cellsFrom w g o 129).toList _ (range_from h) Try.underlying118 rfl (by
    have : (cellsFrom w g o 129).toList.length = 129 := (Array.length_toList).trans (size_from w g o 129)
    rw [this]; exact sizeEl)
  rwa [Array.toArray_toList] at this
theorem load_from_op (ev : Operand → Value) (d : Option Tmp) (x : Operand) (ty : TypeId) (pos : String) (after : Array Edge) (guard : Option (Nat × Bool)) (w : World) :
    Sem.run Try.prog (execOp ev ⟨d, .load 118 x, ty, pos, after, guard⟩) w = loadFrom (ev x) w (thatRun Try.prog ev ⟨d, .load 118 x, ty, pos, after, guard⟩ w) := by
  unfold loadFrom
  split
  · rename_i g o he
    split
    · rename_i h
      unfold execOp
      simp only [he, Sem.run_bind, load_from g o w h, Result.andThen_ok]
      rfl
    · rfl
  · rfl
/-- Reads, then a tail that is forced. -/
theorem still_tail {P : Program} {id : Nat} {Q : Exit → Act → World → Prop} {a : Act} {w : World} {l : List Oper} (n : Nat) (hm : P.follows .mixedOrders = true) (hB : Region.lexTailB .any l.toArray n = true)
    (h : wpStill P l.toArray w.drew (fun a' => wpList P l.toArray Q (l.drop n) a' w.drew) (l.take n) a) : (Code.region id l.toArray true).wp P Q a w := wp_region_still_tail n hm hB h

set_option maxRecDepth 100000 in
set_option maxHeartbeats 1000000 in
theorem at_end (L : List (List G.El)) (B : Nat) (v : Value) (a i : Nat) (l : List G.El) (w : World) (hal : Alts w B v L) (ha : L[a]? = some l) (hi : i = l.length) :
    Calls Try.prog 86 #[v, plV a i] w fun e w' => e = .returned (.tuple #[.agg (elArr (elAt l i)), .bool false]) ∧ Below w.heap.size w w' := by
  obtain ⟨g, cap, u, rfl, hc, hr⟩ := hal.form ha
  obtain ⟨p, c2, rfl⟩ := hr.len
  rw [elAt_ge (by omega)]
  have hlt : a < L.length := (List.getElem?_eq_some_iff.1 ha).1
  have hgl := World.block_lt_of_cell? w _ hc
  have h1 : (0 : Int) ≤ (a : Int) := by omega
  have h2 : (a : Int) < (L.length : Int) := by omega
  have e1 : decide ((i : Int) = (l.length : Int)) = true := by rw [hi]; simp
  have e2 : ((i : Int) == (l.length : Int)) = true := by rw [hi]; simp
  clear hal ha hr
  unfold plV
  go_enter Try.func86, Try.ntmps86
  go_wp2_with fail
  go_quiet (fail)
  have HB := (Blk.new_ (g := w.heap.size + 1) (w.alloc (.cells #[.int .i64 a, .int .i64 l.length] 84)) 118 Try.zeroCells118 (by simp)).drewN nq
  have HB' := Lib.hid HB; clear HB
  have hw := below_drewN (((Below.refl w.heap.size w).alloc (Nat.le_refl _) (.cells #[.int .i64 a, .int .i64 l.length] 84)).alloc (by simp) (.cells Try.zeroCells118 118)) nq
  have hw' := Lib.hid hw; clear hw
  go_wp2_with (refine wpList_store_row rfl 118 (.tmp 4) (.tmp 15) rfl (w.heap.size + 1) Try.zeroCells118 rfl rfl 118 Try.zeroCells118 HB'.out (by rw [zero_elC]; exact sizeEl' _) rfl (by rw [zero_elC]; exact one_elArr _) ?_)
  refine bodyPost_ret (results_row_tmp rfl _ _ (w.heap.size + 1) 118 _ _ rfl (HB'.out.row _) Try.underlying118 rfl (by rw [zero_elC]; exact sizeEl' _)) rfl ?_
  exact ⟨by rw [zero_elC]; rfl, below_row hw'.out (by omega) _⟩

set_option maxRecDepth 100000 in
set_option maxHeartbeats 1000000 in
attribute [local go_sem ↓] load_from_op in
attribute [local go_sem] loadFrom_ptr in
theorem at_in (L : List (List G.El)) (B : Nat) (v : Value) (a i : Nat) (l : List G.El) (x : G.El) (w : World) (hal : Alts w B v L) (ha : L[a]? = some l) (hi : l[i]? = some x) :
    Calls Try.prog 86 #[v, plV a i] w fun e w' => e = .returned (.tuple #[.agg (elArr (elAt l i)), .bool true]) ∧ Below w.heap.size w w' := by
  obtain ⟨g, cap, u, rfl, hc, hr⟩ := hal.form ha
  obtain ⟨g2, c2, rfl, hx⟩ := hr.range hi
  rw [elAt_lt hi]
  have hlt : a < L.length := (List.getElem?_eq_some_iff.1 ha).1
  have hli : i < l.length := (List.getElem?_eq_some_iff.1 hi).1
  have hgl := World.block_lt_of_cell? w _ hc
  have h1 : (0 : Int) ≤ (a : Int) := by omega
  have h2 : (a : Int) < (L.length : Int) := by omega
  have h3 : (0 : Int) ≤ (i : Int) := by omega
  have h4 : (i : Int) < (l.length : Int) := by omega
  have e2 : ((i : Int) == (l.length : Int)) = false := by rw [beq_eq_false_iff_ne]; omega
  have hg2 : g2 < w.heap.size := by
    have := hx 0 _ (elL_lit x)
    exact World.block_lt_of_cell? w _ this
  clear hal ha hr hi
  unfold plV
  go_enter Try.func86, Try.ntmps86
  go_wp2_with fail
  go_quiet (fail)
  go_wp2_with fail
  have HB := (Blk.new_ (g := w.heap.size + 1) (w.alloc (.cells #[.int .i64 a, .int .i64 i] 84)) 118 Try.zeroCells118 (by simp)).drewN nq
  have hw := below_drewN (((Below.refl w.heap.size w).alloc (Nat.le_refl _) (.cells #[.int .i64 a, .int .i64 i] 84)).alloc (by simp) (.cells Try.zeroCells118 118)) nq
  have hx1 : (((w.alloc (.cells #[.int .i64 a, .int .i64 i] 84)).alloc (.cells Try.zeroCells118 118)).drewN nq).rangeAt g2 (i * 129) (elL x) := World.rangeAt_alloc (World.rangeAt_alloc hx _) _
  have HB' := Lib.hid HB; clear HB
  have hw' := Lib.hid hw; clear hw
  have hx' := Lib.hid hx1; clear hx1
  clear hx
  have q3 : (((w.alloc (.cells #[.int .i64 a, .int .i64 i] 84)).alloc (.cells Try.zeroCells118 118)).drewN nq).drew.cell? ⟨w.heap.size, 0, none⟩ = some (.int .i64 a) := by simp
  have q4 : (((w.alloc (.cells #[.int .i64 a, .int .i64 i] 84)).alloc (.cells Try.zeroCells118 118)).drewN nq).drew.cell? ⟨w.heap.size, 1, none⟩ = some (.int .i64 i) := by simp
  have q5 := (from_range hx'.out (length_elL x)).1
  have q6 := (from_range hx'.out (length_elL x)).2
  have q5' : fullAt (((w.alloc (.cells #[.int .i64 a, .int .i64 i] 84)).alloc (.cells Try.zeroCells118 118)).drewN nq).drew g2 (i * 129) 129 = true := q5
  have q6' : cellsFrom (((w.alloc (.cells #[.int .i64 a, .int .i64 i] 84)).alloc (.cells Try.zeroCells118 118)).drewN nq).drew g2 (i * 129) 129 = elArr x := q6.trans (elL_arr x)
  have HB2 : Blk (((w.alloc (.cells #[.int .i64 a, .int .i64 i] 84)).alloc (.cells Try.zeroCells118 118)).drewN nq).drew (w.heap.size + 1) 118 Try.zeroCells118 := HB'.out
  have hw2 : Below w.heap.size w (((w.alloc (.cells #[.int .i64 a, .int .i64 i] 84)).alloc (.cells Try.zeroCells118 118)).drewN nq).drew := hw'.out.drew
  have q2 := (hw2.cell (p := ⟨g, a, none⟩) hgl).trans hc
  clear q5 q6 hx' HB' hw' hc
  refine still_tail 9 (by kernel_rfl) (by kernel_rfl) ?_
  generalize ((((w.alloc (.cells #[.int .i64 a, .int .i64 i] 84)).alloc (.cells Try.zeroCells118 118)).drewN nq).drew) = W at *
  have HB' := Lib.hid HB2; clear HB2
  have hw' := Lib.hid hw2; clear hw2
  simp only [List.take_succ_cons, List.take_zero, List.drop_succ_cons, List.drop_zero]
  repeat still_step
  refine wpStill_nil ?_
  go_wp2_with (refine wpList_store_row rfl 118 (.tmp 4) (.tmp 24) rfl (w.heap.size + 1) (elArr x) rfl rfl 118 Try.zeroCells118 HB'.out (sizeEl' _) (by rw [zero_elC, size_elArr, size_elArr]) (one_elArr _) ?_)
  refine bodyPost_ret (results_row_tmp rfl _ _ (w.heap.size + 1) 118 _ _ rfl (HB'.out.row _) Try.underlying118 rfl (sizeEl' _)) rfl ?_
  exact ⟨rfl, below_row hw'.out (by omega) _⟩

theorem at_any (L : List (List G.El)) (B : Nat) (v : Value) (a i : Nat) (l : List G.El) (w : World) (hal : Alts w B v L) (ha : L[a]? = some l) (hi : i ≤ l.length) :
    Calls Try.prog 86 #[v, plV a i] w fun e w' => e = .returned (.tuple #[.agg (elArr (elAt l i)), .bool (decide (i < l.length))]) ∧ Below w.heap.size w w' := by
  rcases Nat.eq_or_lt_of_le hi with h | h
  · rw [decide_eq_false (by omega)]; exact at_end L B v a i l w hal ha h
  · rw [decide_eq_true h]; exact at_in L B v a i l _ w hal ha (List.getElem?_eq_getElem h)

set_option maxHeartbeats 400000 in
theorem next_any (a i : Nat) (w : World) (hi : i ≤ 1000) : Calls Try.prog 87 #[plV a i] w fun e w' => e = .returned (plV a (i + 1)) ∧ Below w.heap.size w w' := by
  unfold plV
  go_enter Try.func87, Try.ntmps87
  go_wp2_with fail
  refine bodyPost_ret (results_cell_row rfl _ _ (w.heap.size + 1) 84 #[.int .i64 a, .int .i64 ((i : Int) + 1)] (0, 0) _ rfl (Blk.new_ _ _ _ (by simp)) Try.underlying84 rfl (by kernel_rfl)) rfl ⟨by rw [show ((i + 1 : Nat) : Int) = (i : Int) + 1 from by omega], ((Below.refl _ _).alloc (Nat.le_refl _) _).alloc (by simp) _⟩

end Go.Proofs.Ytfihccfjboopiaa
