/-
  THE WALK of glob's (*search).spread.
-/
import Derived.Test.YtfihccfjboopiaaComCost
import Derived.Maps.AppendAt
import Derived.Laws.AppendOwnNone
import Derived.WalkSmall
namespace Go.Proofs.Ytfihccfjboopiaa
open Go.RowKit Go.Maps

theorem zeroB (w : World) : (zeroValue 4).run Try.prog w = .ok (.bool false) w := by kernel_rfl
theorem plainElem_bool_inv {H : Type} {P : Program} {e : TypeId} (he : P.underlying e = some .bool) {v : Value} {z : DataW H × List MemPlace} (h : plainElem P e v = some z) : ∃ b, v = .bool b ∧ z = (.lit (.bool b), []) := by
  unfold plainElem at h
  rw [he] at h
  cases v <;> simp at h
  exact ⟨_, rfl, h.symm⟩

/-- Block sm is the set of the pairs that have been seen. -/
def Seen (w : World) (sm : Nat) (P Q : List (List G.El)) (S : G.Pos → Bool) : Prop :=
  ∃ (n : Nat) (D : DataW Unit), w.ownsMap Try.prog 86 (plainElem Try.prog 4) sm n D ∧ (∀ x, G.InP P Q x → D.atKey (keyL x) (.lit (.bool false)) = .lit (.bool (S x))) ∧ n + cntK S ≤ manyN
section
variable {w w' : World} {sm : Nat} {P Q : List (List G.El)} {S : G.Pos → Bool}
theorem Seen.isMap (h : Seen w sm P Q S) : ∃ es c, w.heap[sm]? = some (.map es c) := by
  obtain ⟨n, D, ⟨es, c, hb, _⟩, _⟩ := h
  exact ⟨es, c, hb⟩
theorem Seen.lt (h : Seen w sm P Q S) : sm < w.heap.size := by
  obtain ⟨es, c, hb⟩ := h.isMap
  exact (Array.getElem?_eq_some_iff.1 hb).1
theorem Seen.heap (h : Seen w sm P Q S) (hw : w'.heap[sm]? = w.heap[sm]?) : Seen w' sm P Q S := by
  obtain ⟨n, D, ⟨es, c, hb, rest⟩, hr⟩ := h
  exact ⟨n, D, ⟨es, c, hw.trans hb, rest⟩, hr⟩
theorem Seen.only {T : Nat → Prop} (h : Seen w sm P Q S) (ho : Only T w w') (hT : ¬ T sm) : Seen w' sm P Q S := h.heap (ho.block sm h.lt hT)
theorem Seen.start (w : World) (P Q : List (List G.El)) : Seen (w.alloc (.map #[] 0)) w.heap.size P Q fun _ => false :=
  ⟨0, .map [], World.ownsMap_made _ _ _ _, fun _ _ => rfl, by have := cntK_le fun _ => false; omega⟩
theorem Seen.look (h : Seen w sm P Q S) {x : G.Pos} (hx : G.InP P Q x) (hsm : Small x) :
    (Instr.lookup 126 (.map (some sm)) (.agg #[.int .i64 x.a, .int .i64 x.i, .int .i64 x.b, .int .i64 x.j]) false).run Try.prog w = .ok (.bool (S x)) w := by
  obtain ⟨n, D, ho, hh, _⟩ := h
  obtain ⟨v, ps, hrun, hv⟩ := ho.lookup lawP Try.underlying126 (zeroB w) (plainElem_bool Try.underlying4 false) (key_pos hsm)
  obtain ⟨b, rfl, hb⟩ := plainElem_bool_inv Try.underlying4 hv
  have := hh x hx
  have e : D.atKey (keyL x) (.lit (.bool false)) = .lit (.bool b) := congrArg Prod.fst hb
  rw [e] at this
  cases this
  exact hrun
theorem Seen.put {n : Nat} {D : DataW Unit} (hf : Few P Q) {x : G.Pos} (hx : G.InP P Q x) (hS : S x = false) (hD : IsMap D) (hh : ∀ x, G.InP P Q x → D.atKey (keyL x) (.lit (.bool false)) = .lit (.bool (S x))) (hn : n + cntK S ≤ manyN)
    (ho : w'.ownsMap Try.prog 86 (plainElem Try.prog 4) sm (n + 1) (D.put (keyL x) (.lit (.bool true)))) : Seen w' sm P Q (withK S x) := by
  obtain ⟨h0, h1, h2, h3⟩ := hf.pos hx
  have hkl : WideAt.IsKeyLit (keyL x) := trivial
  refine ⟨n + 1, _, ho, fun y hy => ?_, by have := cntK_with hS h0 h1 h2 h3; omega⟩
  by_cases e : y = x
  · subst e
    rw [atKey_put_same hD hkl]
    simp [withK]
  · rw [atKey_put_other (fun he => e (keyL_inj (hf.small hy) (hf.small hx) he)), hh y hy]
    simp [withK, e]
end

/-- What holds while pairs are spread: st: the pairs still to be looked at; ys: those that have been found. -/
structure SprInv (P Q : List (List G.El)) (n : Nat) (xs st ys : List G.Pos) (S : G.Pos → Bool) : Prop where
  inSt : ∀ x, x ∈ st → G.InP P Q x ∧ ∃ x0, x0 ∈ xs ∧ G.Skips (G.prOf P Q x0) (G.prOf P Q x)
  inYs : ∀ y, y ∈ ys → G.InP P Q y ∧ (∃ x0, x0 ∈ xs ∧ G.Skips (G.prOf P Q x0) (G.prOf P Q y)) ∧ G.cOf P Q y = some n
  seen : ∀ y, G.InP P Q y → (S y = true ↔ y ∈ ys)
  begin_ : ∀ x, x ∈ xs → G.cOf P Q x = some n → x ∈ ys ∨ x ∈ st
  next_ : ∀ y, y ∈ ys → ∀ z, z ∈ G.skipsOf P Q y → G.cOf P Q z = some n → z ∈ ys ∨ z ∈ st
  len1 : ys.length + cntK S ≤ manyN
  len2 : st.length + cntK S ≤ manyN + manyN
theorem SprInv.start {P Q : List (List G.El)} {n : Nat} {xs : List G.Pos} (h : ∀ x, x ∈ xs → G.InP P Q x) (hl : xs.length ≤ manyN) : SprInv P Q n xs xs [] fun _ => false where
  inSt x hx := ⟨h x hx, x, hx, .refl _⟩
  inYs y hy := by cases hy
  seen y _ := ⟨fun h => (by cases h), fun h => (by cases h)⟩
  begin_ x hx _ := .inr hx
  next_ y hy := by cases hy
  len1 := by
    have := cntK_le fun _ => false
    rw [List.length_nil]
    omega
  len2 := by have := cntK_le fun _ => false; omega
theorem SprInv.drop {P Q : List (List G.El)} {n : Nat} {xs st ys : List G.Pos} {S : G.Pos → Bool} {x : G.Pos} (h : SprInv P Q n xs (st ++ [x]) ys S) (hd : S x = true ∨ G.cOf P Q x ≠ some n) : SprInv P Q n xs st ys S where
  inSt z hz := h.inSt z (List.mem_append_left _ hz)
  inYs := h.inYs
  seen := h.seen
  begin_ z hz hc := by
    rcases h.begin_ z hz hc with h1 | h1
    · exact .inl h1
    · rcases List.mem_append.1 h1 with h2 | h2
      · exact .inr h2
      · simp only [List.mem_singleton] at h2
        subst h2
        rcases hd with hd | hd
        · exact .inl ((h.seen _ (h.inSt _ h1).1).1 hd)
        · exact absurd hc hd
  next_ y hy z hz hc := by
    rcases h.next_ y hy z hz hc with h1 | h1
    · exact .inl h1
    · rcases List.mem_append.1 h1 with h2 | h2
      · exact .inr h2
      · simp only [List.mem_singleton] at h2
        subst h2
        rcases hd with hd | hd
        · exact .inl ((h.seen _ (h.inSt _ h1).1).1 hd)
        · exact absurd hc hd
  len1 := h.len1
  len2 := by have := h.len2; simp at this; omega
theorem SprInv.mark {P Q : List (List G.El)} (hf : Few P Q) {n : Nat} {xs st ys : List G.Pos} {S : G.Pos → Bool} {x : G.Pos} (h : SprInv P Q n xs (st ++ [x]) ys S) (hS : S x = false) (hc : G.cOf P Q x = some n) :
    SprInv P Q n xs (st ++ G.skipsOf P Q x) (ys ++ [x]) (withK S x) := by
  have hx := h.inSt x (by simp)
  obtain ⟨p0, p1, p2, p3⟩ := hf.pos hx.1
  have hcnt := cntK_with hS p0 p1 p2 p3
  have hsk : (G.skipsOf P Q x).length ≤ 2 := by
    unfold G.skipsOf
    rw [List.length_append]
    split <;> split <;> simp
  refine ⟨fun z hz => ?_, fun y hy => ?_, fun y hy => ?_, fun z hz hcz => ?_, fun y hy z hz hcz => ?_, ?_, ?_⟩
  · rcases List.mem_append.1 hz with hz | hz
    · exact h.inSt z (List.mem_append_left _ hz)
    · obtain ⟨h1, h2, _⟩ := G.skip_of hx.1 hz
      obtain ⟨x0, h3, h4⟩ := hx.2
      exact ⟨h1, x0, h3, .step h4 h2⟩
  · rcases List.mem_append.1 hy with hy | hy
    · exact h.inYs y hy
    · simp only [List.mem_singleton] at hy
      subst hy
      exact ⟨hx.1, hx.2, hc⟩
  · have hs := h.seen y hy
    simp only [withK, Bool.or_eq_true, decide_eq_true_eq, List.mem_append, List.mem_singleton]
    rw [hs]
    exact Or.comm
  · rcases h.begin_ z hz hcz with h1 | h1
    · exact .inl (List.mem_append_left _ h1)
    · rcases List.mem_append.1 h1 with h2 | h2
      · exact .inr (List.mem_append_left _ h2)
      · exact .inl (List.mem_append_right _ h2)
  · rcases List.mem_append.1 hy with hy | hy
    · rcases h.next_ y hy z hz hcz with h1 | h1
      · exact .inl (List.mem_append_left _ h1)
      · rcases List.mem_append.1 h1 with h2 | h2
        · exact .inr (List.mem_append_left _ h2)
        · exact .inl (List.mem_append_right _ h2)
    · simp only [List.mem_singleton] at hy
      subst hy
      exact .inr (List.mem_append_right _ hz)
  · have := h.len1; simp; omega
  · have := h.len2; simp at this ⊢; omega

/-- What 'spread' finds. -/
structure SprEnd (P Q : List (List G.El)) (n : Nat) (xs ys : List G.Pos) : Prop where
  in_ : ∀ y, y ∈ ys → G.InP P Q y
  closed : G.Closed n (xs.map (G.prOf P Q)) (ys.map (G.prOf P Q))
  len : ys.length ≤ manyN
theorem SprInv.end_ {P Q : List (List G.El)} {n : Nat} {xs ys : List G.Pos} {S : G.Pos → Bool} (h : SprInv P Q n xs [] ys S) : SprEnd P Q n xs ys where
  in_ y hy := (h.inYs y hy).1
  closed := by
    refine ⟨fun y hy => ?_, fun y hy => ?_, fun x hx hc => ?_, fun y hy z hz hc => ?_⟩
    · obtain ⟨y', hy', rfl⟩ := List.mem_map.1 hy
      obtain ⟨x0, h0, hs⟩ := (h.inYs y' hy').2.1
      exact ⟨_, List.mem_map.2 ⟨x0, h0, rfl⟩, hs⟩
    · obtain ⟨y', hy', rfl⟩ := List.mem_map.1 hy
      exact (h.inYs y' hy').2.2
    · obtain ⟨x', hx', rfl⟩ := List.mem_map.1 hx
      rcases h.begin_ x' hx' hc with h1 | h1
      · exact List.mem_map.2 ⟨_, h1, rfl⟩
      · cases h1
    · obtain ⟨y', hy', rfl⟩ := List.mem_map.1 hy
      obtain ⟨z', hz', rfl⟩ := G.skip_all hz
      rcases h.next_ y' hy' z' hz' hc with h1 | h1
      · exact List.mem_map.2 ⟨_, h1, rfl⟩
      · cases h1
  len := by have := h.len1; omega

/-- The blocks that 'spread' may write. -/
def SpW (mb : Nat) (lv : Value) (k : Nat) : Prop := k = mb ∨ lv.ownBlock = some k
theorem Sch.only2 {w w' : World} {B B0 sb mb : Nat} {vp vq lv : Value} {P Q : List (List G.El)} {xs : List G.Pos} (h : Sch w B sb mb vp vq P Q) (hm : ∃ es c, w.heap[mb]? = some (.map es c)) (hl : Poss w B0 lv xs) (ho : Only (SpW mb lv) w w') : Sch w' B sb mb vp vq P Q := by
  have hne : ∀ {B' : Nat} {e : TypeId} {size n : Nat} {u : Value} {zs : List Value}, e ≠ 86 → w.ownsRow B' e size u n zs → ∀ g, u.ownBlock = some g → ¬ SpW mb lv g := fun hne hu g hg hs => by
    rcases hs with hs | hs
    · obtain ⟨es, c, hm⟩ := hm
      rcases hu.2 with ⟨rfl, _⟩ | ⟨k, cap, cur, rfl, _, hk, _⟩
      · cases hg
      · simp only [Value.ownBlock, Option.some.injEq] at hg
        subst hg
        subst hs
        rw [hm] at hk
        cases hk
    · exact own_ne hu hl hne g hg hs
  refine ⟨h.blk.only ho fun hs => ?_, ?_, ?_⟩
  · rcases hs with hs | hs
    · exact blk_map h.blk hm hs
    · exact own_blk_ne' hl h.blk (by decide) hs
  · obtain ⟨vs, h1, h2⟩ := h.ap
    exact ⟨vs, own_only h1 ho (hne (by decide) h1), fun i a hi => by
      obtain ⟨u, hu, hr⟩ := h2 i a hi
      exact ⟨u, hu, own_only hr ho (hne (by decide) hr)⟩⟩
  · obtain ⟨vs, h1, h2⟩ := h.aq
    exact ⟨vs, own_only h1 ho (hne (by decide) h1), fun i a hi => by
      obtain ⟨u, hu, hr⟩ := h2 i a hi
      exact ⟨u, hu, own_only hr ho (hne (by decide) hr)⟩⟩
/-- A slice of pairs: nil, or a row. -/
theorem poss_cases {w : World} {B : Nat} {v : Value} {xs : List G.Pos} (h : Poss w B v xs) : (v = .slice none 0 0 ∧ xs = []) ∨ ∃ g cap, v = .slice (some ⟨g, 0, none⟩) xs.length cap ∧ ∀ j u, (xs.flatMap posL)[j]? = some u → w.cell? ((⟨g, 0, none⟩ : Addr).add j) = some u := by
  have h0 := h
  rcases h with ⟨_, ⟨rfl, hz⟩ | ⟨g, cap, cur, rfl, _⟩⟩
  · exact .inl ⟨rfl, List.eq_nil_of_length_eq_zero hz⟩
  · refine .inr ⟨g, cap, rfl, fun j u hu => ?_⟩
    have hj := (List.getElem?_eq_some_iff.1 hu).1
    rw [length_flat_pos] at hj
    have hadd : (⟨g, 0, none⟩ : Addr).add j = ⟨g, j, none⟩ := by unfold Addr.add; split <;> simp_all
    rw [hadd, World.ownsRow.cellAt h0 j (by omega)]
    exact hu
theorem poss_map {w w' : World} {mb B : Nat} {v : Value} {xs : List G.Pos} (h : Poss w B v xs) (hm : ∃ es c, w.heap[mb]? = some (.map es c)) (ho : Only (fun k => k = mb) w w') : Poss w' B v xs := own_map h hm ho
theorem flat_one (xs : List G.Pos) : ∀ u ∈ xs.flatMap posL, u.oneCell' = true := by
  intro u hu
  obtain ⟨x, _, hx⟩ := List.mem_flatMap.1 hu
  exact posL_one x u hx
theorem poss_pop {w : World} {B g cap : Nat} {xs : List G.Pos} {x : G.Pos} (h : Poss w B (.slice (some ⟨g, 0, none⟩) (xs.length + 1) cap) (xs ++ [x])) : Poss w B (.slice (some ⟨g, 0, none⟩) xs.length cap) xs := by
  unfold Poss at h ⊢
  rw [List.length_append, List.length_singleton, ← flat_snoc] at h
  exact ownsRow_pop (length_flat_pos xs) h

end Go.Proofs.Ytfihccfjboopiaa
