/-
  PLAIN LAW: in a tree whose numbers are distinct and whose parents have smaller numbers, the reference's chain is a device with its ancestors. No program in sight.
-/
import Derived.Test.YtinjeijjfkkhbaaGreatDoorZChain
import Derived.Test.YtinjeijjfkkhbaaGreatDoorMatchAnc
namespace Go.Proofs.YtinjeijjfkkhbaaGreatDoor

/-- The numbers are distinct, the parents' numbers smaller. -/
def Sound (l : List Dev) : Prop := (l.Pairwise fun a b => a.idx ≠ b.idx) ∧ ∀ d ∈ l, d.par < d.idx
theorem uniq_eq {l : List Dev} (h : l.Pairwise fun a b => a.idx ≠ b.idx) {a b : Dev} (ha : a ∈ l) (hb : b ∈ l) (e : a.idx = b.idx) : a = b := by
  induction l with
  | nil => cases ha
  | cons c l ih =>
    have h1 := List.pairwise_cons.1 h
    rcases List.mem_cons.1 ha with ea | ha
    · rcases List.mem_cons.1 hb with eb | hb
      · exact ea.trans eb.symm
      · rw [ea] at e
        exact absurd e (h1.1 b hb)
    · rcases List.mem_cons.1 hb with eb | hb
      · rw [eb] at e
        exact absurd e.symm (h1.1 a ha)
      · exact ih h1.2 ha hb
theorem refFind_mem {l : List Dev} {i : Int} {d : Dev} (h : refFind l i = some d) : d ∈ l ∧ d.idx = i := by
  unfold refFind at h
  have h2 := List.find?_some h
  exact ⟨List.mem_of_find?_eq_some h, by simpa using h2⟩
theorem refFind_no {l : List Dev} {i : Int} (h : refFind l i = none) : ∀ d ∈ l, d.idx ≠ i := fun d hd => by
  unfold refFind at h
  have := List.find?_eq_none.1 h d hd
  simpa using this
theorem lastIx_no : ∀ (l : List Dev) (k : Nat) (i : Int), lastIx l k i = none → ∀ j d, j < k → l[j]? = some d → d.idx ≠ i
  | l, 0, i, _, j, d, hj, _ => by omega
  | l, k + 1, i, h, j, d, hj, hd => by
    rw [lastIx] at h
    by_cases hjk : j = k
    · subst hjk
      rw [hd] at h
      dsimp only at h
      split at h
      · cases h
      · assumption
    · have h2 : lastIx l k i = none := by
        split at h
        · split at h
          · cases h
          · exact h
        · exact h
      exact lastIx_no l k i h2 j d (by omega) hd
theorem last_find {l : List Dev} (h : l.Pairwise fun a b => a.idx ≠ b.idx) (i : Int) : lastD l i = refFind l i := by
  cases hf : refFind l i with
  | none =>
    unfold lastD
    cases hl : lastIx l l.length i with
    | none => rfl
    | some j =>
      obtain ⟨_, d, h1, h2⟩ := lastIx_lt l _ i j hl
      exact absurd h2 (refFind_no hf d (List.mem_of_getElem? h1))
  | some d =>
    obtain ⟨hd, hi⟩ := refFind_mem hf
    cases hl : lastIx l l.length i with
    | none =>
      obtain ⟨j, hj, e⟩ := List.getElem_of_mem hd
      exact absurd hi (lastIx_no l _ i hl j d hj (by rw [List.getElem?_eq_getElem hj, e]))
    | some j =>
      obtain ⟨e, h1, h2, h3⟩ := lastD_some hl
      rw [h3, uniq_eq h (List.mem_of_getElem? h1) hd (h2.trans hi.symm)]
theorem chain_same {l : List Dev} (h : l.Pairwise fun a b => a.idx ≠ b.idx) : ∀ (f : Nat) (i : Int), chainD l f i = chainR l f i
  | 0, _ => rfl
  | f + 1, i => by
    rw [chainD, chainR, last_find h]
    cases refFind l i with
    | none => rfl
    | some d => dsimp only; rw [chain_same h f d.par]
theorem chainR_mem (l : List Dev) : ∀ (f : Nat) (i : Int), ∀ d ∈ chainR l f i, d ∈ l
  | 0, i, d, h => by cases h
  | f + 1, i, d, h => by
    rw [chainR] at h
    split at h
    · cases h
    · rename_i e he
      rcases List.mem_cons.1 h with rfl | h
      · exact (refFind_mem he).1
      · exact chainR_mem l f e.par d h
theorem chainR_low {l : List Dev} (h : ∀ d ∈ l, d.par < d.idx) : ∀ (f : Nat) (i : Int), ∀ d ∈ chainR l f i, d.idx ≤ i
  | 0, i, d, hd => by cases hd
  | f + 1, i, d, hd => by
    rw [chainR] at hd
    split at hd
    · cases hd
    · rename_i e he
      obtain ⟨h1, h2⟩ := refFind_mem he
      rcases List.mem_cons.1 hd with rfl | hd
      · omega
      · have h3 := chainR_low h f e.par d hd
        have h4 := h e h1
        omega
/-- The device and its ancestors are the reference's chain. -/
theorem chainF_ref {l : List Dev} (h : Sound l) (i : Int) : chainF l i = chainR l l.length i := by
  unfold chainF
  have e : (l.find? fun d => decide (d.idx = i)) = refFind l i := by
    unfold refFind
    congr 1
  rw [e]
  cases hf : refFind l i with
  | none => rw [chainR_none hf]
  | some d =>
    obtain ⟨hd, hi⟩ := refFind_mem hf
    obtain ⟨f, hlen⟩ : ∃ f, l.length = f + 1 := ⟨l.length - 1, by have := List.length_pos_of_mem hd; omega⟩
    rw [hlen, chainR_some hf]
    dsimp only
    unfold ancS
    rw [chain_same h.1, hlen, chainR_some hf, List.filter_cons, if_neg (by simp [hi])]
    congr 1
    rw [List.filter_eq_self]
    intro x hx
    have h1 := chainR_low h.2 f d.par x hx
    have h2 := h.2 d hd
    simp
    omega
/-- A device put in with a number above all keeps a tree sound. -/
theorem Sound.put {l : List Dev} (h : Sound l) {d : Dev} (h1 : ∀ x ∈ l, x.idx < d.idx) (h2 : d.par < d.idx) (k : Nat) : Sound (l.take k ++ d :: l.drop k) := by
  have hm : ∀ x, x ∈ l.take k ++ d :: l.drop k → x = d ∨ x ∈ l := fun x hx => by
    rcases List.mem_append.1 hx with hx | hx
    · exact .inr (List.mem_of_mem_take hx)
    · rcases List.mem_cons.1 hx with hx | hx
      · exact .inl hx
      · exact .inr (List.mem_of_mem_drop hx)
  refine ⟨?_, fun x hx => ?_⟩
  · have hp := h.1
    rw [← List.take_append_drop k l, List.pairwise_append] at hp
    rw [List.pairwise_append]
    refine ⟨hp.1, List.pairwise_cons.2 ⟨fun x hx => ?_, hp.2.1⟩, fun x hx y hy => ?_⟩
    · have := h1 x (List.mem_of_mem_drop hx); omega
    · rcases List.mem_cons.1 hy with rfl | hy
      · have := h1 x (List.mem_of_mem_take hx); omega
      · exact hp.2.2 x hx y hy
  · rcases hm x hx with rfl | hx
    · exact h2
    · exact h.2 x hx

end Go.Proofs.YtinjeijjfkkhbaaGreatDoor
