/-
  THE WALK of glob's (*search).step.
-/
import Derived.Test.YtfihccfjboopiaaComSkips
namespace Go.Proofs.Ytfihccfjboopiaa
open Go.RowKit

/-- Results in two blocks and a slot. -/
theorem results_row_row_tmp {P : Program} {fn : Func} {p q u : Tmp} {ty ty2 : TypeId} (h : fn.results = #[.cell p ty, .cell q ty2, .tmp u]) (tmps : Array Value) (w : World) (g g2 : Nat) (t t2 : TypeId) (cs cs2 : Array Value) (d d2 : TypeDesc)
    (hp : tmps.getD p undef = .pointer (some ⟨g, 0, none⟩)) (hg : w.heap[g]? = some (.cells cs t (0, 0)))
    (hu : P.underlying ty = some d) (hd : (match d with | .struct _ | .array _ _ => true | _ => false) = true) (hi : (P.info? ty).map (·.size) = some cs.size)
    (hp2 : tmps.getD q undef = .pointer (some ⟨g2, 0, none⟩)) (hg2 : w.heap[g2]? = some (.cells cs2 t2 (0, 0)))
    (hu2 : P.underlying ty2 = some d2) (hd2 : (match d2 with | .struct _ | .array _ _ => true | _ => false) = true) (hi2 : (P.info? ty2).map (·.size) = some cs2.size) :
    (results fn tmps).run P w = .ok (.tuple #[.agg cs, .agg cs2, tmps.getD u undef]) w := by
  have hp' : tmps[p]?.getD undef = .pointer (some ⟨g, 0, none⟩) := by simpa using hp
  have hp2' : tmps[q]?.getD undef = .pointer (some ⟨g2, 0, none⟩) := by simpa using hp2
  simp only [results, h]
  simp [Sem.run_bind, Result.andThen, hp', hp2', asAddr, run_loadVar_row w g t ty cs (0, 0) d hg hu hd hi, run_loadVar_row w g2 t2 ty2 cs2 (0, 0) d2 hg2 hu2 hd2 hi2]

/-! A WHOLE SET READ, at the level of the whole operation. -/
def loadSet (v : Value) (w : World) (els : Result Next) : Result Next := match v with
  | .pointer (some ⟨g, o, none⟩) => if fullAt w g o 127 = true then .ok (.value (.agg (cellsFrom w g o 127))) w else els
  | _ => els
theorem loadSet_ptr (g o : Nat) (w : World) (els : Result Next) : loadSet (.pointer (some ⟨g, o, none⟩)) w els = if fullAt w g o 127 = true then .ok (.value (.agg (cellsFrom w g o 127))) w else els := rfl
theorem load_set (g o : Nat) (w : World) (h : fullAt w g o 127 = true) : (Instr.loadAt 116 (.pointer (some ⟨g, o, none⟩))).run Try.prog w = .ok (.agg (cellsFrom w g o 127)) w := by
  have := run_loadAt_mid (P := Try.prog) w g o 116 (cellsFrom w g o 127).toList _ (range_from h) Try.underlying116 rfl (by
    have : (cellsFrom w g o 127).toList.length = 127 := (Array.length_toList).trans (size_from w g o 127)
    rw [this]; exact sizeSet)
  rwa [Array.toArray_toList] at this
theorem load_set_op (ev : Operand → Value) (d : Option Tmp) (x : Operand) (ty : TypeId) (pos : String) (after : Array Edge) (guard : Option (Nat × Bool)) (w : World) :
    Sem.run Try.prog (execOp ev ⟨d, .load 116 x, ty, pos, after, guard⟩) w = loadSet (ev x) w (thatRun Try.prog ev ⟨d, .load 116 x, ty, pos, after, guard⟩ w) := by
  unfold loadSet
  split
  · rename_i g o he
    split
    · rename_i h
      unfold execOp
      simp only [he, Sem.run_bind, load_set g o w h, Result.andThen_ok]
      rfl
    · rfl
  · rfl
theorem set_from {w : World} {g : Nat} {t : TypeId} {s : Nat → Bool} (h : Blk w g t (setArr s)) : fullAt w g 0 127 = true ∧ cellsFrom w g 0 127 = setArr s := by
  have hr : w.rangeAt g 0 (setArr s).toList := h.whole
  have := from_range (n := 127) hr (by simp [size_setArr])
  exact ⟨this.1, by rw [this.2]⟩

/-- The bytes below k that are in both sets. -/
def bTo (a b : Nat → Bool) (k : Nat) : Nat → Bool := fun i => (decide (32 ≤ i) && decide (i < k)) && (a i && b i)
def sTo (a b : Nat → Bool) (k : Nat) : Bool := (List.range (k - 32)).any fun i => a (32 + i) && b (32 + i)
theorem bTo_32 (a b : Nat → Bool) : bTo a b 32 = G.none' := by
  funext i
  simp only [bTo, G.none']
  by_cases h : 32 ≤ i
  · have : ¬ i < 32 := by omega
    simp [this]
  · simp [h]
theorem bTo_upd (a b : Nat → Bool) (k : Nat) (h : 32 ≤ k) : upd (bTo a b k) k (a k && b k) = bTo a b (k + 1) := by
  funext i
  simp only [upd, bTo]
  by_cases e : i = k
  · subst e
    have : i < i + 1 := by omega
    simp [h, this]
  · rw [if_neg e]
    have : (i < k + 1) = (i < k) := by simp; omega
    simp [this]
theorem bTo_at (a b : Nat → Bool) (k : Nat) (h : 32 ≤ k) : bTo a b (k + 1) k = (a k && b k) := by
  have : k < k + 1 := by omega
  simp [bTo, h]
theorem sTo_step (a b : Nat → Bool) (k : Nat) (h : 32 ≤ k) : sTo a b (k + 1) = (sTo a b k || (a k && b k)) := by
  unfold sTo
  rw [show k + 1 - 32 = (k - 32) + 1 from by omega, List.range_succ, List.any_append]
  simp [show 32 + (k - 32) = k from by omega]
theorem sTo_32 (a b : Nat → Bool) : sTo a b 32 = false := rfl
theorem bTo_127 (a b : Nat → Bool) : setArr (bTo a b 127) = setArr fun i => G.pr i && (a i && b i) := setArr_congr fun i hi => by
  simp only [bTo, G.pr]
  rw [show decide (i < 127) = decide (i ≤ 126) from by simp <;> omega]

theorem pair_one (a b c d : Int) : (#[.int .i64 a, .int .i64 b, .int .i64 c, .int .i64 d] : Array Value).all (·.oneCell') = true := by simp [Value.oneCell']
theorem pair_size (a b c d : Int) : (Try.prog.info? 86).map (·.size) = some (#[.int .i64 a, .int .i64 b, .int .i64 c, .int .i64 d] : Array Value).size := by kernel_rfl

theorem blk_setCells {g : Nat} {t : TypeId} {cs : Array Value} (b : Nat) : ∀ (vs : List Value) (o : Nat) (w : World), Blk w g t cs → g ≠ b → Blk (w.setCells b o vs) g t cs
  | [], _, _, h, _ => h
  | v :: r, o, _, h, hne => blk_setCells b r (o + 1) _ (h.other hne v) hne
theorem blk_setCells_from {t : TypeId} (b : Nat) : ∀ (vs : List Value) (o : Nat) (w : World) (cs : Array Value), Blk w b t cs → o + vs.length = cs.size → Blk (w.setCells b o vs) b t (cs.toList.take o ++ vs).toArray
  | [], o, w, cs, h, hl => by
    have : cs.toList.take o = cs.toList := List.take_of_length_le (by simp at hl ⊢; omega)
    rw [this, List.append_nil, Array.toArray_toList]
    exact h
  | v :: r, o, w, cs, h, hl => by
    rw [World.setCells]
    simp only [List.length_cons] at hl
    have := blk_setCells_from b r (o + 1) _ _ (h.store o v) (by simp; omega)
    rw [Array.toList_setIfInBounds] at this
    have e : (cs.toList.set o v).take (o + 1) = cs.toList.take o ++ [v] := by
      rw [List.take_add_one, List.take_set_of_le (Nat.le_refl _), List.getElem?_set_self (by simp; omega)]
      rfl
    rw [e] at this
    simpa using this
theorem blk_setCells_same {t : TypeId} {cs : Array Value} (b : Nat) (vs : List Value) (w : World) (h : Blk w b t cs) (hl : vs.length = cs.size) : Blk (w.setCells b 0 vs) b t vs.toArray := by
  have := blk_setCells_from b vs 0 w cs h (by omega)
  simpa using this
theorem below_setCells' {B : Nat} {a : World} (b : Nat) (hb : B ≤ b) : ∀ (vs : List Value) (o : Nat) (w : World), Below B a w → Below B a (w.setCells b o vs)
  | [], _, _, h => h
  | v :: r, o, _, h => below_setCells' b hb r (o + 1) _ (h.setCell hb v)
theorem sizePair : (Try.prog.info? 86).map (·.size) = some 4 := by kernel_rfl
theorem store_pair_op (ev : Operand → Value) (d : Option Tmp) (x y : Operand) (ty : TypeId) (pos : String) (after : Array Edge) (guard : Option (Nat × Bool)) (w : World) :
    Sem.run Try.prog (execOp ev ⟨d, .store 86 x y, ty, pos, after, guard⟩) w = storeTo 4 (ev x) (ev y) w (thatRun Try.prog ev ⟨d, .store 86 x y, ty, pos, after, guard⟩ w) := by
  unfold storeTo
  split
  · rename_i g cs he hf
    split
    · rename_i h
      obtain ⟨t, cur, hb, h1, h2, h3⟩ := room_inv h
      unfold execOp
      simp only [he, hf, Instr.storeAt, Instr.sureAddr, Sem.run_bind, Sem.run_pure, Result.andThen_ok, run_storeVar_row w g t 86 cur cs hb (by rw [h2]; exact sizePair) (by rw [h1, h2]) h3]
    · rfl
  · rfl

/-- What 'step' answers. -/
def StepPost (P Q : List (List G.El)) (x : G.Pos) (w : World) (e : Ending) (w' : World) : Prop :=
  ∃ y bs, e = .returned (.tuple #[posV y, .agg (setArr bs), .bool (G.okOf P Q x)]) ∧ Below w.heap.size w w' ∧ (G.okOf P Q x = true → y = G.nextOf P Q x ∧ setArr bs = setArr (G.bothOf P Q x))

theorem ok_no {P Q : List (List G.El)} {x : G.Pos} (h : (!(decide (x.i < (P.getD x.a []).length)) || !(decide (x.j < (Q.getD x.b []).length)) || ((elAt (P.getD x.a []) x.i).star && (elAt (Q.getD x.b []) x.j).star)) = true) : G.okOf P Q x = false := by
  cases hk : G.okOf P Q x with
  | false => rfl
  | true =>
    obtain ⟨h1, h2⟩ := G.ok_lt hk
    rw [decide_eq_true h1, decide_eq_true h2] at h
    simp only [Bool.not_true, Bool.or_self, Bool.false_or] at h
    unfold G.okOf G.prOf at hk
    dsimp only at hk
    rw [List.drop_eq_getElem_cons h1, List.drop_eq_getElem_cons h2] at hk
    rw [elAt_lt (List.getElem?_eq_getElem h1), elAt_lt (List.getElem?_eq_getElem h2)] at h
    simp only [G.stepOk, h, Bool.not_true, Bool.false_and] at hk
    cases hk
theorem ok_yes {P Q : List (List G.El)} {x : G.Pos} (h1 : x.i < (P.getD x.a []).length) (h2 : x.j < (Q.getD x.b []).length) (h : ((elAt (P.getD x.a []) x.i).star && (elAt (Q.getD x.b []) x.j).star) = false) :
    G.okOf P Q x = sTo (elAt (P.getD x.a []) x.i).set (elAt (Q.getD x.b []) x.j).set 127 ∧ (fun c => G.pr c && ((elAt (P.getD x.a []) x.i).set c && (elAt (Q.getD x.b []) x.j).set c)) = G.bothOf P Q x ∧
      G.starts (G.prOf P Q x).1 = (elAt (P.getD x.a []) x.i).star ∧ G.starts (G.prOf P Q x).2 = (elAt (Q.getD x.b []) x.j).star := by
  have e1 := elAt_lt (List.getElem?_eq_getElem h1)
  have e2 := elAt_lt (List.getElem?_eq_getElem h2)
  rw [e1, e2] at h ⊢
  unfold G.okOf G.bothOf G.prOf
  dsimp only
  rw [List.drop_eq_getElem_cons h1, List.drop_eq_getElem_cons h2]
  refine ⟨?_, rfl, rfl, rfl⟩
  simp only [G.stepOk, h, Bool.not_false, Bool.true_and]
  rfl

set_option maxRecDepth 100000 in
set_option maxHeartbeats 4000000 in
attribute [local go_sem ↓] store_to_op store_pair_op in
attribute [local go_sem] storeTo_ptr room_new in
theorem step_any (P Q : List (List G.El)) (B sb mb : Nat) (vp vq : Value) (x : G.Pos) (w : World) (hs : Sch w B sb mb vp vq P Q) (hx : G.InP P Q x) (hsm : x.i ≤ 256 ∧ x.j ≤ 256) :
    Calls Try.prog 69 #[.pointer (some ⟨sb, 0, none⟩), posV x] w (StepPost P Q x w) := by
  have hsb := hs.blk.lt
  obtain ⟨hsm1, hsm2⟩ := hsm
  have hno := ok_no (P := P) (Q := Q) (x := x)
  have hyes := ok_yes (P := P) (Q := Q) (x := x)
  have hokp0 : decide (x.i < (P.getD x.a []).length) = true → x.i < (P.getD x.a []).length := of_decide_eq_true
  have hokq0 : decide (x.j < (Q.getD x.b []).length) = true → x.j < (Q.getD x.b []).length := of_decide_eq_true
  have hfin : ∀ e w', StepPost P Q x w e w' → StepPost P Q x w e w' := fun _ _ h => h
  obtain ⟨ep, hep⟩ : ∃ y, y = elAt (P.getD x.a []) x.i := ⟨_, rfl⟩
  obtain ⟨eq, heq⟩ : ∃ y, y = elAt (Q.getD x.b []) x.j := ⟨_, rfl⟩
  obtain ⟨okp, hokp⟩ : ∃ y, y = decide (x.i < (P.getD x.a []).length) := ⟨_, rfl⟩
  obtain ⟨okq, hokq⟩ : ∃ y, y = decide (x.j < (Q.getD x.b []).length) := ⟨_, rfl⟩
  rw [← hep, ← heq, ← hokp, ← hokq] at hno
  rw [← hep, ← heq] at hyes
  rw [← hokp] at hokp0
  rw [← hokq] at hokq0
  unfold posV
  go_enter Try.func69, Try.ntmps69
  go_wp2_with fail
  have hB0 : Below w.heap.size w (((w.alloc (.cells #[.int .i64 x.a, .int .i64 x.i, .int .i64 x.b, .int .i64 x.j] 86)).alloc (.cells #[.int .i64 0, .int .i64 0, .int .i64 0, .int .i64 0] 86)).alloc (.cells Try.zeroCells116 116)) := (((Below.refl _ _).alloc (Nat.le_refl _) _).alloc (by simp) _).alloc (by simp; omega) _
  have hS0 := hs.below hB0
  have hX0 : Blk (((w.alloc (.cells #[.int .i64 x.a, .int .i64 x.i, .int .i64 x.b, .int .i64 x.j] 86)).alloc (.cells #[.int .i64 0, .int .i64 0, .int .i64 0, .int .i64 0] 86)).alloc (.cells Try.zeroCells116 116)) w.heap.size 86 #[.int .i64 x.a, .int .i64 x.i, .int .i64 x.b, .int .i64 x.j] := ((Blk.new w _ _).alloc _).alloc _
  have hR0 : Blk (((w.alloc (.cells #[.int .i64 x.a, .int .i64 x.i, .int .i64 x.b, .int .i64 x.j] 86)).alloc (.cells #[.int .i64 0, .int .i64 0, .int .i64 0, .int .i64 0] 86)).alloc (.cells Try.zeroCells116 116)) (w.heap.size + 1) 86 #[.int .i64 0, .int .i64 0, .int .i64 0, .int .i64 0] := (Blk.new_ _ _ _ (by simp)).alloc _
  have hT0 : Blk (((w.alloc (.cells #[.int .i64 x.a, .int .i64 x.i, .int .i64 x.b, .int .i64 x.j] 86)).alloc (.cells #[.int .i64 0, .int .i64 0, .int .i64 0, .int .i64 0] 86)).alloc (.cells Try.zeroCells116 116)) (w.heap.size + 1 + 1) 116 Try.zeroCells116 := Blk.new_ _ _ _ (by simp)
  have hz0' : (((w.alloc (.cells #[.int .i64 x.a, .int .i64 x.i, .int .i64 x.b, .int .i64 x.j] 86)).alloc (.cells #[.int .i64 0, .int .i64 0, .int .i64 0, .int .i64 0] 86)).alloc (.cells Try.zeroCells116 116)).heap.size = w.heap.size + 1 + 1 + 1 := by simp
  generalize (((w.alloc (.cells #[.int .i64 x.a, .int .i64 x.i, .int .i64 x.b, .int .i64 x.j] 86)).alloc (.cells #[.int .i64 0, .int .i64 0, .int .i64 0, .int .i64 0] 86)).alloc (.cells Try.zeroCells116 116)) = W at *
  have hsz : w.heap.size < W.heap.size := by omega
  have KEEP : ∀ w', Below W.heap.size W w' → Below W.heap.size W w' ∧ w'.cell? ⟨sb, 0, none⟩ = some vp ∧ w'.cell? ⟨sb, 1, none⟩ = some vq ∧ w'.cell? ⟨w.heap.size, 0, none⟩ = some (.int .i64 x.a) ∧ w'.cell? ⟨w.heap.size, 1, none⟩ = some (.int .i64 x.i) ∧ w'.cell? ⟨w.heap.size, 2, none⟩ = some (.int .i64 x.b) ∧ w'.cell? ⟨w.heap.size, 3, none⟩ = some (.int .i64 x.j) := fun w' h =>
    ⟨h, (h.cell (p := ⟨sb, 0, none⟩) (by show sb < _; omega)).trans ((hS0.blk.cell 0).trans rfl), (h.cell (p := ⟨sb, 1, none⟩) (by show sb < _; omega)).trans ((hS0.blk.cell 1).trans rfl), (h.cell (p := ⟨w.heap.size, 0, none⟩) hsz).trans ((hX0.cell 0).trans rfl), (h.cell (p := ⟨w.heap.size, 1, none⟩) hsz).trans ((hX0.cell 1).trans rfl), (h.cell (p := ⟨w.heap.size, 2, none⟩) hsz).trans ((hX0.cell 2).trans rfl), (h.cell (p := ⟨w.heap.size, 3, none⟩) hsz).trans ((hX0.cell 3).trans rfl)⟩
  have HA : ∀ W', Below W.heap.size W W' → Calls Try.prog 86 #[vp, .agg #[.int .i64 x.a, .int .i64 x.i]] W' fun e w' => e = .returned (.tuple #[.agg (elArr ep), .bool okp]) ∧ Below W'.heap.size W' w' := fun W' hb => by
    rw [hep, hokp]
    exact at_any P B vp x.a x.i _ W' (hS0.below hb).ap (getD_some hx.1) hx.2.2.1
  have HC : ∀ W', Below W.heap.size W W' → Calls Try.prog 86 #[vq, .agg #[.int .i64 x.b, .int .i64 x.j]] W' fun e w' => e = .returned (.tuple #[.agg (elArr eq), .bool okq]) ∧ Below W'.heap.size W' w' := fun W' hb => by
    rw [heq, hokq]
    exact at_any Q B vq x.b x.j _ W' (hS0.below hb).aq (getD_some hx.2.1) hx.2.2.2
  have HA : ∀ W', Below W.heap.size W W' → Calls Try.prog 86 #[vp, .agg #[.int .i64 x.a, .int .i64 x.i]] W' fun e w' => e = .returned (.tuple #[.agg (elArr ep), .bool okp]) ∧ Below W'.heap.size W' w' := fun W' hb => by
    rw [hep, hokp]
    exact at_any P B vp x.a x.i _ W' (hS0.below hb).ap (getD_some hx.1) hx.2.2.1
  have HC : ∀ W', Below W.heap.size W W' → Calls Try.prog 86 #[vq, .agg #[.int .i64 x.b, .int .i64 x.j]] W' fun e w' => e = .returned (.tuple #[.agg (elArr eq), .bool okq]) ∧ Below W'.heap.size W' w' := fun W' hb => by
    rw [heq, hokq]
    exact at_any Q B vq x.b x.j _ W' (hS0.below hb).aq (getD_some hx.2.1) hx.2.2.2
  have KEEP' := Lib.hid KEEP; clear KEEP
  have HA' := Lib.hid HA; clear HA
  have HC' := Lib.hid HC; clear HC
  have hB' := Lib.hid hB0; clear hB0
  have hX' := Lib.hid hX0; clear hX0
  have hR' := Lib.hid hR0; clear hR0
  have hT' := Lib.hid hT0; clear hT0
  have hz' := Lib.hid hz0'; clear hz0' hS0 hs hep heq hokp hokq hfin
  have hno' := Lib.hid hno; clear hno
  have hyes' := Lib.hid hyes; clear hyes
  have hokp' := Lib.hid hokp0; clear hokp0
  have hokq' := Lib.hid hokq0; clear hokq0
  have hx' := Lib.hid hx; clear hx
  obtain ⟨wo, hwo⟩ : ∃ y : World, y = W := ⟨_, rfl⟩
  have hbo : Below W.heap.size W wo := by rw [hwo]; exact Below.refl _ _
  have hzo : W.heap.size ≤ wo.heap.size := hbo.size
  rw [← hwo]
  clear hwo
  go_cut [7, 8] (fun t6 t7 wx => ∃ g, t6 = .pointer (some ⟨g, 0, none⟩) ∧ t7 = .bool okp ∧ Blk wx g 118 (elArr ep) ∧ Below W.heap.size W wx)
  case first =>
    go_region_held3 (fun w' => Below W.heap.size W w' ∧ w'.cell? ⟨sb, 0, none⟩ = some vp ∧ w'.cell? ⟨sb, 1, none⟩ = some vq ∧ w'.cell? ⟨w.heap.size, 0, none⟩ = some (.int .i64 x.a) ∧ w'.cell? ⟨w.heap.size, 1, none⟩ = some (.int .i64 x.i) ∧ w'.cell? ⟨w.heap.size, 2, none⟩ = some (.int .i64 x.b) ∧ w'.cell? ⟨w.heap.size, 3, none⟩ = some (.int .i64 x.j))
      ((go_split_ands; first
      | exact KEEP'.out _ (Below.drew (by assumption))
      | exact KEEP'.out _ (Below.trans (by assumption) (hb.mono (Below.size (by assumption))))
      | exact KEEP'.out _ (Below.alloc (by assumption) (Below.size (by assumption)) _)
      | exact KEEP'.out _ (below_row (by assumption) (by first | exact hz2 | exact hzo) _)))
      (first | (go_at_call 86; go_split_ands; refine (HA'.out _ (by assumption)).mono ?_; rintro e w' ⟨rfl, hb⟩; have hz2 : W.heap.size ≤ w'.heap.size := Nat.le_trans (Below.size (w := W) (B := W.heap.size) (by assumption)) hb.size; (try have ht2 : roomAt w' wo.heap.size (elArr ep) 129 = true := room_below (W := (wo.alloc (.cells Try.zeroCells118 118)).drew) (room_new wo ep) hb (by simp))) | fail)
    all_goals go_wp2_with fail
    all_goals go_meet
    all_goals
      refine ⟨_, rfl, rfl, ?_, by go_split_ands; assumption⟩
      first
        | exact (Blk.new _ _ _).row _
        | exact (((Blk.new wo 118 Try.zeroCells118).drew.below hb (by simp)).row _)
  case rest =>
    obtain ⟨g1, rfl, rfl, hg1, hb1⟩ := hcut
    clear hbo hzo
    obtain ⟨wo, rfl⟩ : ∃ y : World, y = wc := ⟨_, rfl⟩
    have hbo : Below W.heap.size W wo := hb1
    have hzo : W.heap.size ≤ wo.heap.size := hbo.size
    clear hb1
    have hg1' := Lib.hid hg1; clear hg1
    go_upto_region 2 with fail
    go_cut [9, 10] (fun t6 t7 wx => ∃ g, t6 = .pointer (some ⟨g, 0, none⟩) ∧ t7 = .bool okq ∧ Blk wx g 118 (elArr eq) ∧ Below W.heap.size W wx ∧ Blk wx g1 118 (elArr ep))
    case first =>
      go_region_held3 (fun w' => Below W.heap.size W w' ∧ w'.cell? ⟨sb, 0, none⟩ = some vp ∧ w'.cell? ⟨sb, 1, none⟩ = some vq ∧ w'.cell? ⟨w.heap.size, 0, none⟩ = some (.int .i64 x.a) ∧ w'.cell? ⟨w.heap.size, 1, none⟩ = some (.int .i64 x.i) ∧ w'.cell? ⟨w.heap.size, 2, none⟩ = some (.int .i64 x.b) ∧ w'.cell? ⟨w.heap.size, 3, none⟩ = some (.int .i64 x.j))
        ((go_split_ands; first
      | exact KEEP'.out _ (Below.drew (by assumption))
      | exact KEEP'.out _ (Below.trans (by assumption) (hb.mono (Below.size (by assumption))))
      | exact KEEP'.out _ (Below.alloc (by assumption) (Below.size (by assumption)) _)
      | exact KEEP'.out _ (below_row (by assumption) (by first | exact hz2 | exact hzo) _)))
        (first | (go_at_call 86; go_split_ands; refine (HC'.out _ (by assumption)).mono ?_; rintro e w' ⟨rfl, hb⟩; have hz2 : W.heap.size ≤ w'.heap.size := Nat.le_trans (Below.size (w := W) (B := W.heap.size) (by assumption)) hb.size; (try have ht2 : roomAt w' wo.heap.size (elArr eq) 129 = true := room_below (W := (wo.alloc (.cells Try.zeroCells118 118)).drew) (room_new wo eq) hb (by simp))) | fail)
      all_goals go_wp2_with fail
      all_goals go_meet
      · exact ⟨_, rfl, rfl, (Blk.new _ _ _).row _, by go_split_ands; assumption, ((hg1'.out.drew.below hb hg1'.out.lt).alloc _).rowOther (by have := hg1'.out.lt; have := hb.size; simp at this; omega) _⟩
      · exact ⟨_, rfl, rfl, ((Blk.new wo 118 Try.zeroCells118).drew.below hb (by simp)).row _, by go_split_ands; assumption, ((hg1'.out.alloc (.cells Try.zeroCells118 118)).drew.below hb (by have := hg1'.out.lt; simp; omega)).rowOther (by have := hg1'.out.lt; omega) _⟩
    case rest =>
      obtain ⟨g2, rfl, rfl, hg2, hb1, hg1⟩ := hcut
      clear hbo hzo hg1'
      obtain ⟨wo, rfl⟩ : ∃ y : World, y = wc := ⟨_, rfl⟩
      have gs1 : wo.cell? ⟨g1, 1, none⟩ = some (.bool ep.star) := (hg1.cell 1).trans (elArr_star ep)
      have gs2 : wo.cell? ⟨g2, 1, none⟩ = some (.bool eq.star) := (hg2.cell 1).trans (elArr_star eq)
      have hlt1 := hg1.lt
      have hlt2 := hg2.lt
      have hzo : W.heap.size ≤ wo.heap.size := hb1.size
      have hbo' := Lib.hid hb1; clear hb1
      have hg1' := Lib.hid hg1; clear hg1
      have hg2' := Lib.hid hg2; clear hg2
      go_upto_region 3 with fail
      go_cut [47] (fun t wx => t = .bool (!okp || !okq || (ep.star && eq.star)) ∧ wo = wx)
      case first =>
        cases okp
        · go_wp2_with fail
          go_meet
          case rel => exact ⟨rfl, rfl⟩
        · cases okq
          · go_wp2_with fail
            go_meet
            case rel => exact ⟨rfl, rfl⟩
          · cases hsp : ep.star
            · rw [hsp] at gs1
              have hsp' := Lib.hid hsp; clear hsp
              go_wp2_with fail
              go_meet
              case rel => exact ⟨by rw [hsp'.out]; rfl, rfl⟩
            · rw [hsp] at gs1
              have hsp' := Lib.hid hsp; clear hsp
              go_wp2_with fail
              go_meet
              case rel => exact ⟨by rw [hsp'.out]; simp, rfl⟩
      case rest =>
        obtain ⟨rfl, rfl⟩ := hcut
        by_cases hb : (!okp || !okq || (ep.star && eq.star)) = true
        · have hn := hno'.out hb
          rw [hb]
          have hn' := Lib.hid hn; clear hn hb gs1 gs2
          have hR1 := hR'.out.below hbo'.out (by have := hz'.out; omega)
          have hT1 := hT'.out.below hbo'.out (by have := hz'.out; omega)
          rw [zero_set] at hT1
          have hR1' := Lib.hid hR1; clear hR1
          have hT1' := Lib.hid hT1; clear hT1
          go_wp2_with (first
            | (refine wpList_build_to rfl 116 #[] rfl (setArr G.none') built_set ?_)
            | (refine wpList_store_row rfl 86 (.tmp 4) (.tmp 48) rfl (w.heap.size + 1) #[.int .i64 0, .int .i64 0, .int .i64 0, .int .i64 0] rfl rfl 86 #[.int .i64 0, .int .i64 0, .int .i64 0, .int .i64 0] hR1'.out (pair_size 0 0 0 0) rfl (pair_one 0 0 0 0) ?_)
            | (refine wpList_store_row rfl 116 (.tmp 5) (.tmp 49) rfl (w.heap.size + 1 + 1) (setArr G.none') rfl rfl 116 (setArr G.none') (hT1'.out.rowOther (by omega) _) (sizeSet' G.none') (Eq.refl (setArr G.none').size) (one_setArr G.none') ?_))
          refine bodyPost_ret (results_row_row_tmp rfl _ _ (w.heap.size + 1) (w.heap.size + 1 + 1) 86 116 #[.int .i64 0, .int .i64 0, .int .i64 0, .int .i64 0] (setArr G.none') _ _ rfl ((hR1'.out.row _).rowOther (by omega) _) Try.underlying86 rfl (by kernel_rfl) rfl ((hT1'.out.rowOther (by omega) _).row _) Try.underlying116 rfl (sizeSet' _)) rfl ?_
          exact ⟨⟨0, 0, 0, 0⟩, G.none', by rw [hn'.out]; rfl, below_row (below_row (hB'.out.trans (hbo'.out.mono (by omega))) (by omega) _) (by omega) _, fun e => by rw [hn'.out] at e; cases e⟩
        · have hb' : (!okp || !okq || (ep.star && eq.star)) = false := by simpa using hb
          rw [hb']
          have hk1 : okp = true := by cases okp <;> simp_all
          have hk2 : okq = true := by cases okq <;> simp_all
          have hns : (ep.star && eq.star) = false := by cases okp <;> cases okq <;> simp_all
          have hy := hyes'.out (hokp'.out hk1) (hokq'.out hk2) hns
          have hy' := Lib.hid hy; clear hy
          have hns' := Lib.hid hns; clear hns
          clear hb hb' hk1 hk2 hno' hyes' hokp' hokq' gs1 gs2
          go_wp2_with fail
          go_loopw [12, 13] (fun t12 t13 wr => ∃ k : Nat, 32 ≤ k ∧ k ≤ 127 ∧ t13 = .int .i64 k ∧ t12 = .bool (sTo ep.set eq.set k) ∧ Below W.heap.size W wr ∧ Blk wr g1 118 (elArr ep) ∧ Blk wr g2 118 (elArr eq) ∧ Blk wr wo.heap.size 116 (setArr (bTo ep.set eq.set k))) (fun _ t13 _ => 127 - (intOf t13).toNat)
          case atStart =>
            exact ⟨32, by omega, by omega, rfl, rfl, hbo'.out.alloc hzo _, hg1'.out.alloc _, hg2'.out.alloc _, by rw [bTo_32, ← zero_set]; exact Blk.new _ _ _⟩
          case round =>
            clear hbo' hg1' hg2'
            obtain ⟨k, hk1, hk2, rfl, rfl, hb1, hg1, hg2, hgs⟩ := hrel
            by_cases hk : k < 127
            · obtain ⟨va, hva⟩ : ∃ y, y = ep.set k := ⟨_, rfl⟩
              obtain ⟨vb, hvb⟩ : ∃ y, y = eq.set k := ⟨_, rfl⟩
              obtain ⟨vs, hvs⟩ : ∃ y, y = sTo ep.set eq.set k := ⟨_, rfl⟩
              have c1 : wr.cell? ⟨g1, 2 + k, none⟩ = some (.bool va) := by rw [hva]; exact (hg1.cell _).trans (elArr_set _ _ hk)
              have c2 : wr.cell? ⟨g2, 2 + k, none⟩ = some (.bool vb) := by rw [hvb]; exact (hg2.cell _).trans (elArr_set _ _ hk)
              obtain ⟨v0, c3⟩ : ∃ v, wr.cell? ⟨wo.heap.size, k, none⟩ = some v := ⟨_, (hgs.cell _).trans (setArr_get _ _ hk)⟩
              have f3 := hgs.frozen k
              have hl3 := hgs.lt
              have e1 := hb1.setCell (p := ⟨wo.heap.size, k, none⟩) hzo (.bool (va && vb))
              have e2 := hg1.other (p := ⟨wo.heap.size, k, none⟩) (by simp; omega) (.bool (va && vb))
              have e3 := hg2.other (p := ⟨wo.heap.size, k, none⟩) (by simp; omega) (.bool (va && vb))
              have e4 : Blk (wr.setCell ⟨wo.heap.size, k, none⟩ (.bool (va && vb))) wo.heap.size 116 (setArr (bTo ep.set eq.set (k + 1))) := by
                have := hgs.store k (.bool (va && vb))
                rw [setArr_upd, hva, hvb, bTo_upd _ _ _ hk1] at this
                rw [hva, hvb]
                exact this
              have e5 : sTo ep.set eq.set (k + 1) = (vs || (va && vb)) := by rw [hva, hvb, hvs]; exact sTo_step _ _ _ hk1
              rw [← hvs]
              have e1' := Lib.hid e1; clear e1
              have e2' := Lib.hid e2; clear e2
              have e3' := Lib.hid e3; clear e3
              have e4' := Lib.hid e4; clear e4
              have e5' := Lib.hid e5; clear e5
              clear hva hvb hvs hb1 hg1 hg2 hgs
              cases va <;> cases vb <;> cases vs
              all_goals
                go_wp2_with fail
                go_roundw
                case rel => exact ⟨k + 1, by omega, by omega, by go_num, by rw [e5'.out]; rfl, e1'.out, e2'.out, e3'.out, e4'.out⟩
                case measure => simp [intOf]; omega
            · obtain rfl : k = 127 := by omega
              obtain ⟨sp, hsp⟩ : ∃ y, y = ep.star := ⟨_, rfl⟩
              obtain ⟨sq, hsq⟩ : ∃ y, y = eq.star := ⟨_, rfl⟩
              obtain ⟨sk, hsk⟩ : ∃ y, y = sTo ep.set eq.set 127 := ⟨_, rfl⟩
              rw [← hsk]
              have gs1 : wr.cell? ⟨g1, 1, none⟩ = some (.bool sp) := by rw [hsp]; exact (hg1.cell 1).trans (elArr_star ep)
              have hz := hz'.out
              have hX1 := hX'.out.below hb1 hsz
              have hR1 := hR'.out.below hb1 (by omega)
              have hT1 := hT'.out.below hb1 (by omega)
              have hbw := hB'.out.trans (hb1.mono (by omega))
              rw [zero_set] at hT1
              have hne2 : g2 ≠ w.heap.size := fun e => Blk.ne_ hg2 hX1 (by decide) e
              have hsp' := Lib.hid hsp; clear hsp
              have hsq' := Lib.hid hsq; clear hsq
              have hsk' := Lib.hid hsk; clear hsk
              have hX1' := Lib.hid hX1; clear hX1
              have hR1' := Lib.hid hR1; clear hR1
              have hT1' := Lib.hid hT1; clear hT1
              have hb1' := Lib.hid hbw; clear hbw hb1 hg1
              have hg2' := Lib.hid hg2; clear hg2
              have hgs' := Lib.hid hgs; clear hgs hz
              obtain ⟨wq, rfl⟩ : ∃ y : World, y = wr := ⟨_, rfl⟩
              go_upto_if 74 with fail
              go_cut [] (fun wx => Blk wx w.heap.size 86 #[.int .i64 x.a, .int .i64 (if sp then x.i else x.i + 1 : Nat), .int .i64 x.b, .int .i64 (x.j : Nat)] ∧ Blk wx (w.heap.size + 1) 86 #[.int .i64 0, .int .i64 0, .int .i64 0, .int .i64 0] ∧ Blk wx (w.heap.size + 1 + 1) 116 (setArr G.none') ∧ Blk wx wo.heap.size 116 (setArr (bTo ep.set eq.set 127)) ∧ Below w.heap.size w wx ∧ Blk wx g2 118 (elArr eq))
              case first =>
                cases sp
                · -- no star: the place moves on
                  have k0 : wq.cell? ⟨w.heap.size, 0, none⟩ = some (.int .i64 x.a) := (hX1'.out.cell 0).trans rfl
                  have k1 : wq.cell? ⟨w.heap.size, 1, none⟩ = some (.int .i64 x.i) := (hX1'.out.cell 1).trans rfl
                  go_wp2_with (go_at_call 87; refine (next_any x.a x.i _ (by omega)).mono ?_; unfold plV; rintro e w' ⟨rfl, hb⟩; have hX2 := hX1'.out.below hb hX1'.out.lt; have m0 := (hX2.cell 0).trans rfl; have m1 := (hX2.cell 1).trans rfl; have f0 := hX2.frozen 0; have f1 := hX2.frozen 1; have hX2' := Lib.hid hX2; clear hX2; have hbe' := Lib.hid hb; clear hb)
                  go_meet
                  case rel =>
                    have hX3 := (hX2'.out.store 0 (.int .i64 x.a)).store 1 (.int .i64 ((x.i : Int) + 1))
                    exact ⟨by simpa using hX3, ((hR1'.out.below hbe'.out hR1'.out.lt).other (p := ⟨w.heap.size, 0, none⟩) (by simp <;> omega) _).other (p := ⟨w.heap.size, 1, none⟩) (by simp <;> omega) _, ((hT1'.out.below hbe'.out hT1'.out.lt).other (p := ⟨w.heap.size, 0, none⟩) (by simp <;> omega) _).other (p := ⟨w.heap.size, 1, none⟩) (by simp <;> omega) _, ((hgs'.out.below hbe'.out hgs'.out.lt).other (p := ⟨w.heap.size, 0, none⟩) (by simp <;> omega) _).other (p := ⟨w.heap.size, 1, none⟩) (by simp <;> omega) _, ((hb1'.out.trans (hbe'.out.mono hb1'.out.size)).setCell (Nat.le_refl _) _).setCell (Nat.le_refl _) _, ((hg2'.out.below hbe'.out hg2'.out.lt).other (p := ⟨w.heap.size, 0, none⟩) (by simp <;> omega) _).other (p := ⟨w.heap.size, 1, none⟩) (by simp <;> omega) _⟩
                · go_wp2_with fail
                  go_meet
                  case rel => exact ⟨hX1'.out, hR1'.out, hT1'.out, hgs'.out, hb1'.out, hg2'.out⟩
              case rest =>
                obtain ⟨hX1, hR1, hT1, hgs, hb1, hg2⟩ := hcut
                clear hX1' hR1' hT1' hgs' hb1' hg2'
                have gs2 : wc.cell? ⟨g2, 1, none⟩ = some (.bool sq) := by rw [hsq'.out]; exact (hg2.cell 1).trans (elArr_star eq)
                obtain ⟨i2, hi2⟩ : ∃ y, y = (if sp then x.i else x.i + 1) := ⟨_, rfl⟩
                rw [← hi2] at hX1
                have hi2' := Lib.hid hi2; clear hi2
                have hX1' := Lib.hid hX1; clear hX1
                have hR1' := Lib.hid hR1; clear hR1
                have hT1' := Lib.hid hT1; clear hT1
                have hb1' := Lib.hid hb1; clear hb1 hg2
                have hgs' := Lib.hid hgs; clear hgs
                obtain ⟨wq, rfl⟩ : ∃ y : World, y = wc := ⟨_, rfl⟩
                go_upto_if 81 with fail
                go_cut [] (fun wx => Blk wx w.heap.size 86 #[.int .i64 x.a, .int .i64 (i2 : Nat), .int .i64 x.b, .int .i64 (if sq then x.j else x.j + 1 : Nat)] ∧ Blk wx (w.heap.size + 1) 86 #[.int .i64 0, .int .i64 0, .int .i64 0, .int .i64 0] ∧ Blk wx (w.heap.size + 1 + 1) 116 (setArr G.none') ∧ Blk wx wo.heap.size 116 (setArr (bTo ep.set eq.set 127)) ∧ Below w.heap.size w wx)
                case first =>
                  cases sq
                  · -- no star: the place moves on
                    have k0 : wq.cell? ⟨w.heap.size, 2, none⟩ = some (.int .i64 x.b) := (hX1'.out.cell 2).trans rfl
                    have k1 : wq.cell? ⟨w.heap.size, 3, none⟩ = some (.int .i64 x.j) := (hX1'.out.cell 3).trans rfl
                    go_wp2_with (go_at_call 87; refine (next_any x.b x.j _ (by omega)).mono ?_; unfold plV; rintro e w' ⟨rfl, hb⟩; have hX2 := hX1'.out.below hb hX1'.out.lt; have m0 := (hX2.cell 2).trans rfl; have m1 := (hX2.cell 3).trans rfl; have f0 := hX2.frozen 2; have f1 := hX2.frozen 3; have hX2' := Lib.hid hX2; clear hX2; have hbe' := Lib.hid hb; clear hb)
                    go_meet
                    case rel =>
                      have hX3 := (hX2'.out.store 2 (.int .i64 x.b)).store 3 (.int .i64 ((x.j : Int) + 1))
                      exact ⟨by simpa using hX3, ((hR1'.out.below hbe'.out hR1'.out.lt).other (p := ⟨w.heap.size, 2, none⟩) (by simp <;> omega) _).other (p := ⟨w.heap.size, 3, none⟩) (by simp <;> omega) _, ((hT1'.out.below hbe'.out hT1'.out.lt).other (p := ⟨w.heap.size, 2, none⟩) (by simp <;> omega) _).other (p := ⟨w.heap.size, 3, none⟩) (by simp <;> omega) _, ((hgs'.out.below hbe'.out hgs'.out.lt).other (p := ⟨w.heap.size, 2, none⟩) (by simp <;> omega) _).other (p := ⟨w.heap.size, 3, none⟩) (by simp <;> omega) _, ((hb1'.out.trans (hbe'.out.mono hb1'.out.size)).setCell (Nat.le_refl _) _).setCell (Nat.le_refl _) _⟩
                  · go_wp2_with fail
                    go_meet
                    case rel => exact ⟨hX1'.out, hR1'.out, hT1'.out, hgs'.out, hb1'.out⟩
                case rest =>
                  obtain ⟨hX1, hR1, hT1, hgs, hb1⟩ := hcut
                  clear hX1' hR1' hT1' hgs' hb1' gs1 gs2
                  go_wp2_with fail
                  obtain ⟨j2, hj2⟩ : ∃ y, y = (if sq then x.j else x.j + 1) := ⟨_, rfl⟩
                  rw [← hj2] at hX1
                  have hX2 : Blk wc.drew w.heap.size 86 #[.int .i64 x.a, .int .i64 i2, .int .i64 x.b, .int .i64 j2] := hX1
                  have hR2 : Blk wc.drew (w.heap.size + 1) 86 #[.int .i64 0, .int .i64 0, .int .i64 0, .int .i64 0] := hR1
                  have hT2 : Blk wc.drew (w.heap.size + 1 + 1) 116 (setArr G.none') := hT1
                  have hG2 : Blk wc.drew wo.heap.size 116 (setArr (bTo ep.set eq.set 127)) := hgs
                  have hb2 : Below w.heap.size w wc.drew := hb1.drew
                  clear hX1 hR1 hT1 hgs hb1
                  have hz := hz'.out
                  obtain ⟨L, hL⟩ : ∃ y, y = (setArr (bTo ep.set eq.set 127)).toList := ⟨_, rfl⟩
                  have hln : L.length = 127 := by rw [hL]; simp [size_setArr]
                  have h1 : ∀ v ∈ L, v.oneCell' = true := by
                    intro v hv
                    rw [hL] at hv
                    have := one_setArr (bTo ep.set eq.set 127)
                    rw [Array.all_eq_true_iff_forall_mem] at this
                    exact this v (by simpa using hv)
                  have hi : (Try.prog.info? 116).map (·.size) = some L.length := by rw [hln]; exact sizeSet
                  have hu := Try.underlying116
                  have mk : ∀ w' : World, Blk w' w.heap.size 86 #[.int .i64 x.a, .int .i64 i2, .int .i64 x.b, .int .i64 j2] → w'.rangeAt wo.heap.size 0 L → w'.there (w.heap.size + 1 + 1) 0 127 → (∃ cs : Array Value, cs.size = 4 ∧ Blk w' (w.heap.size + 1) 86 cs) → ((w').cell? ⟨w.heap.size, 0, none⟩ = some (.int .i64 x.a) ∧ (w').cell? ⟨w.heap.size, 1, none⟩ = some (.int .i64 i2) ∧ (w').cell? ⟨w.heap.size, 2, none⟩ = some (.int .i64 x.b) ∧ (w').cell? ⟨w.heap.size, 3, none⟩ = some (.int .i64 j2) ∧ (w').rangeAt wo.heap.size 0 L ∧ (w').there (w.heap.size + 1 + 1) 0 127 ∧ roomAt (w') (w.heap.size + 1) #[.int .i64 x.a, .int .i64 i2, .int .i64 x.b, .int .i64 j2] 4 = true) := fun w' b1 b2 b3 ⟨cs, hcs, b4⟩ =>
                    ⟨(b1.cell 0).trans rfl, (b1.cell 1).trans rfl, (b1.cell 2).trans rfl, (b1.cell 3).trans rfl, b2, b3, room_blk b4 hcs rfl (pair_one _ _ _ _)⟩
                  have hrg : wc.drew.rangeAt wo.heap.size 0 L := by rw [hL]; exact hG2.whole
                  have tht : wc.drew.there (w.heap.size + 1 + 1) 0 127 := fun j hj => ⟨by rw [hT2.cell, Nat.zero_add, setArr_get _ _ hj]; rfl, hT2.frozen _⟩
                  have hwo1 : w.heap.size + 1 + 1 < wo.heap.size := by omega
                  have K1 := mk _ hX2 hrg tht ⟨_, rfl, hR2⟩
                  have hX3 := hX2.rowOther (g' := w.heap.size + 1) (by omega) #[.int .i64 x.a, .int .i64 i2, .int .i64 x.b, .int .i64 j2]
                  have hT3 := hT2.rowOther (g' := w.heap.size + 1) (by omega) #[.int .i64 x.a, .int .i64 i2, .int .i64 x.b, .int .i64 j2]
                  have hG3 := hG2.rowOther (g' := w.heap.size + 1) (by omega) #[.int .i64 x.a, .int .i64 i2, .int .i64 x.b, .int .i64 j2]
                  have hR3 := hR2.row #[.int .i64 x.a, .int .i64 i2, .int .i64 x.b, .int .i64 j2]
                  have hrg3 : (wc.drew.setRow (w.heap.size + 1) #[.int .i64 x.a, .int .i64 i2, .int .i64 x.b, .int .i64 j2]).rangeAt wo.heap.size 0 L := by rw [hL]; exact hG3.whole
                  have tht3 : (wc.drew.setRow (w.heap.size + 1) #[.int .i64 x.a, .int .i64 i2, .int .i64 x.b, .int .i64 j2]).there (w.heap.size + 1 + 1) 0 127 := fun j hj => ⟨by rw [hT3.cell, Nat.zero_add, setArr_get _ _ hj]; rfl, hT3.frozen _⟩
                  have K2 := mk _ hX3 hrg3 tht3 ⟨_, rfl, hR3⟩
                  have hX4 := blk_setCells (w.heap.size + 1 + 1) L 0 _ hX3 (by omega)
                  have hR4 := blk_setCells (w.heap.size + 1 + 1) L 0 _ hR3 (by omega)
                  have hT4 := blk_setCells_same (w.heap.size + 1 + 1) L _ hT3 (by rw [hln, size_setArr])
                  have K3 := mk _ hX4 (World.rangeAt_setCells_apart hrg3 _ _ _ (.inl (by omega))) (World.there_setCells tht3 _ _ _) ⟨_, rfl, hR4⟩
                  have hb4 := below_setCells' (w.heap.size + 1 + 1) (by omega) L 0 _ (below_row hb2 (g := w.heap.size + 1) (by omega) #[.int .i64 x.a, .int .i64 i2, .int .i64 x.b, .int .i64 j2])
                  have hLA : L.toArray = setArr (bTo ep.set eq.set 127) := by rw [hL, Array.toArray_toList]
                  have hR4' := Lib.hid hR4; clear hR4
                  have hT4' := Lib.hid hT4; clear hT4
                  have hb4' := Lib.hid hb4; clear hb4
                  have hj2' := Lib.hid hj2; clear hj2
                  have hLA' := Lib.hid hLA; clear hLA
                  have K1' := Lib.hid K1; clear K1
                  have K2' := Lib.hid K2; clear K2
                  have K3' := Lib.hid K3; clear K3
                  have hz2' := Lib.hid hz; clear hz hX2 hR2 hT2 hG2 hb2 hX3 hT3 hG3 hR3 hX4 mk hrg tht hrg3 tht3 hL
                  go_region_held3 (fun w' => w'.cell? ⟨w.heap.size, 0, none⟩ = some (.int .i64 x.a) ∧ w'.cell? ⟨w.heap.size, 1, none⟩ = some (.int .i64 i2) ∧ w'.cell? ⟨w.heap.size, 2, none⟩ = some (.int .i64 x.b) ∧ w'.cell? ⟨w.heap.size, 3, none⟩ = some (.int .i64 j2) ∧ w'.rangeAt wo.heap.size 0 L ∧ w'.there (w.heap.size + 1 + 1) 0 127 ∧ roomAt w' (w.heap.size + 1) #[.int .i64 x.a, .int .i64 i2, .int .i64 x.b, .int .i64 j2] 4 = true) ((first | exact K1'.out | exact K2'.out | exact K3'.out)) (fail)
                  go_wp2_with fail
                  refine bodyPost_ret (results_row_row_tmp rfl _ _ (w.heap.size + 1) (w.heap.size + 1 + 1) 86 116 #[.int .i64 x.a, .int .i64 i2, .int .i64 x.b, .int .i64 j2] L.toArray _ _ rfl hR4'.out Try.underlying86 rfl (pair_size _ _ _ _) rfl hT4'.out Try.underlying116 rfl (by rw [hLA'.out]; exact sizeSet' _)) rfl ?_
                  have hy := hy'.out
                  refine ⟨⟨x.a, i2, x.b, j2⟩, bTo ep.set eq.set 127, by rw [hy.1, ← hsk'.out, hLA'.out]; rfl, hb4'.out, fun _ => ⟨?_, ?_⟩⟩
                  · rw [hi2'.out, hj2'.out, hsp'.out, hsq'.out, ← hy.2.2.1, ← hy.2.2.2]
                    rfl
                  · rw [bTo_127, hy.2.1]

end Go.Proofs.Ytfihccfjboopiaa
