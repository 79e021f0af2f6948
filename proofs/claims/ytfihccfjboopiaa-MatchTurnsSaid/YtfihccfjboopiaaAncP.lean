/-
  WHERE UPWARD TERMS HOLD (plain).
-/
import Derived.Test.YtfihccfjboopiaaMatchJoin
namespace Go.Proofs.Ytfihccfjboopiaa
open Go

/-- The first device of a list at which no upward term fails. -/
def ancR (ts : List Trm) (D : List Dev) : Int × Bool := match D.find? (fun x => !ts.any (offS x)) with
  | some x => (x.idx, true)
  | none => (0, false)
/-- The device and its ancestors. -/
def chainF (l : List Dev) (i : Int) : List Dev := match l.find? (fun d => decide (d.idx = i)) with
  | some d => d :: ancS l i
  | none => []
theorem sameD.off {d d' : Dev} (h : sameD d d') : offS d' = offS d := by
  obtain ⟨h1, h2, h3, h4, h5, h6, h7, h8, h9, h10⟩ := h
  funext t
  unfold offS devS valK
  rw [h4, h5, h6, h10]
theorem sameD.fit {d d' : Dev} (h : sameD d d') (hf : DevFit d) : DevFit d' := by
  obtain ⟨h1, h2, h3, h4, h5, h6, h7, h8, h9, h10⟩ := h
  unfold DevFit at *
  rw [h4, h5, h6, h10]
  exact hf
theorem Sames.cons {x y : Dev} {xs l : List Dev} (h : Sames xs l) (hd : sameD x y) : Sames (x :: xs) (y :: l) := by
  refine ⟨by simp [h.1], fun k d hk => ?_⟩
  cases k with
  | zero => cases hk; exact ⟨y, rfl, hd⟩
  | succ k => exact h.2 k d hk
theorem Sames.uncons {x y : Dev} {xs l : List Dev} (h : Sames (x :: xs) (y :: l)) : sameD x y ∧ Sames xs l := by
  refine ⟨?_, by have := h.1; simpa using this, fun k d hk => h.2 (k + 1) d hk⟩
  obtain ⟨d', h1, h2⟩ := h.2 0 x rfl
  cases h1
  exact h2
theorem ancR_sames (ts : List Trm) : ∀ (xs l : List Dev), Sames xs l → ancR ts l = ancR ts xs
  | [], l, h => by
    have : l = [] := List.eq_nil_of_length_eq_zero h.1
    rw [this]
  | x :: xs, l, h => by
    rcases l with _ | ⟨y, l⟩
    · have := h.1; simp at this
    · obtain ⟨h1, h2⟩ := h.uncons
      have ih := ancR_sames ts xs l h2
      unfold ancR at *
      rw [List.find?_cons, List.find?_cons, h1.off]
      cases !ts.any (offS x) with
      | true => show (y.idx, true) = (x.idx, true); rw [h1.1]
      | false => exact ih
theorem Sames.mem {xs l : List Dev} (h : Sames xs l) : ∀ y ∈ l, ∃ x ∈ xs, sameD x y := fun y hy => by
  obtain ⟨k, hk⟩ := List.getElem?_of_mem hy
  have hlt : k < xs.length := by rw [← h.1]; exact (List.getElem?_eq_some_iff.1 hk).1
  obtain ⟨d', h1, h2⟩ := h.2 k _ (List.getElem?_eq_getElem hlt)
  rw [hk] at h1
  cases h1
  exact ⟨_, List.getElem_mem hlt, h2⟩
theorem lastD_mem {l : List Dev} {i : Int} {d : Dev} (h : lastD l i = some d) : d ∈ l := by
  unfold lastD at h
  cases hl : lastIx l l.length i with
  | none => rw [hl] at h; cases h
  | some j =>
    rw [hl] at h
    exact List.mem_of_getElem? h
theorem chainD_mem (l : List Dev) : ∀ (f : Nat) (i : Int), ∀ d ∈ chainD l f i, d ∈ l
  | 0, i, d, h => by cases h
  | f + 1, i, d, h => by
    rw [chainD] at h
    split at h
    · rename_i e he
      rcases List.mem_cons.1 h with rfl | h
      · exact lastD_mem he
      · exact chainD_mem l f e.par d h
    · cases h
theorem ancS_mem {l : List Dev} {i : Int} {d : Dev} (h : d ∈ ancS l i) : d ∈ l := chainD_mem l _ _ d (List.mem_filter.1 h).1
theorem ancS_len (l : List Dev) (i : Int) : (ancS l i).length ≤ l.length := by
  unfold ancS
  exact Nat.le_trans (List.length_filter_le _ _) (chainD_len l _ _)
theorem chainF_none {l : List Dev} {i : Int} (h : ∀ x ∈ l, x.idx ≠ i) : chainF l i = [] := by
  unfold chainF
  rw [List.find?_eq_none.2 fun x hx => by simp [h x hx]]
theorem chainF_some {l : List Dev} {i : Int} {k : Nat} {d : Dev} (hk : l[k]? = some d) (hd : d.idx = i) (hb : ∀ j x, j < k → l[j]? = some x → x.idx ≠ i) : chainF l i = d :: ancS l i := by
  have : l = l.take k ++ d :: l.drop (k + 1) := by
    obtain ⟨hlt, e⟩ := List.getElem?_eq_some_iff.1 hk
    rw [← e, ← List.drop_eq_getElem_cons hlt, List.take_append_drop]
  have hf : l.find? (fun d => decide (d.idx = i)) = some d := by
    rw [this, List.find?_append, List.find?_eq_none.2 fun y hy => ?_]
    · simp [hd]
    · obtain ⟨j, hj⟩ := List.getElem?_of_mem hy
      rw [List.getElem?_take] at hj
      split at hj
      · rename_i hjk
        simp [hb j y hjk hj]
      · cases hj
  unfold chainF
  rw [hf]

theorem ancR_none {ts : List Trm} {D : List Dev} (h : ∀ j x, j < D.length → D[j]? = some x → ts.any (offS x) = true) : ancR ts D = (0, false) := by
  unfold ancR
  rw [List.find?_eq_none.2 fun x hx => ?_]
  obtain ⟨j, hj⟩ := List.getElem?_of_mem hx
  simp [h j x (List.getElem?_eq_some_iff.1 hj).1 hj]
theorem ancR_some {ts : List Trm} {D : List Dev} {k : Nat} {x : Dev} (hk : D[k]? = some x) (hb : ∀ j y, j < k → D[j]? = some y → ts.any (offS y) = true) (hx : ts.any (offS x) = false) : ancR ts D = (x.idx, true) := by
  have : D = D.take k ++ x :: D.drop (k + 1) := by
    obtain ⟨hlt, e⟩ := List.getElem?_eq_some_iff.1 hk
    rw [← e, ← List.drop_eq_getElem_cons hlt, List.take_append_drop]
  unfold ancR
  rw [this, List.find?_append, List.find?_eq_none.2 fun y hy => ?_]
  · rw [List.find?_cons, hx]; rfl
  · obtain ⟨j, hj⟩ := List.getElem?_of_mem hy
    rw [List.getElem?_take] at hj
    split at hj
    · rename_i hjk
      simp [hb j y hjk hj]
    · cases hj

/-- What an append of sealed devices leaves at a step of a region that draws. -/
theorem step_join {ops : Array Oper} {o : Oper} {a : Act} {w : World} {K : Act → World → Prop} {Q : Exit → Act → World → Prop} {E : Prop} (hgd : o.guard = none) (s x : Operand)
    (ho : o.op = .call { callee := .builtin .append, args := #[s, x], argTypes := #[45, 45] }) (hty : o.type = 45) (v y r : Value) (w' : World) (hs : a.eval s = v) (hx : a.eval x = y) (hrun : appDev v y w = .ok r w')
    (h : K (a.put o.dst r) w') : if Region.wanted o (yielded ops a.tmps) = true then Oper.wp Try.prog o a w K Q else E := by
  have hw : Region.wanted o (yielded ops a.tmps) = true := by simp [Region.wanted, hgd]
  rw [if_pos hw]
  unfold appDev at hrun
  unfold Oper.wp execOp
  simp only [ho, hty, resolve, invoke, builtin, Sem.run_bind, Sem.run_pure, Result.andThen_ok, List.map_toArray, List.map_cons, List.map_nil, hs, hx, hrun]
  exact h

end Go.Proofs.Ytfihccfjboopiaa
