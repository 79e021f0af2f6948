/-
  WHAT THE MAP OF COSTS HOLDS: of each pair of places that it knows, the cost.
-/
import Derived.Test.YtfihccfjboopiaaComMap
namespace Go.Proofs.Ytfihccfjboopiaa
open Go.RowKit Go.Maps

/-! How many pairs of places there are at most. -/
def manyN : Nat := 257 * 257 * 257 * 257
theorem manyN_eq : manyN = 4362470401 := by unfold manyN; rfl
def codeOf (x : G.Pos) : Nat := ((x.a * 257 + x.i) * 257 + x.b) * 257 + x.j
def decOf (n : Nat) : G.Pos := ⟨n / 257 / 257 / 257, n / 257 / 257 % 257, n / 257 % 257, n % 257⟩
theorem dec_code {x : G.Pos} (h1 : x.i < 257) (h2 : x.b < 257) (h3 : x.j < 257) : decOf (codeOf x) = x := by
  obtain ⟨a, i, b, j⟩ := x
  simp only [decOf, codeOf, G.Pos.mk.injEq] at *
  refine ⟨?_, ?_, ?_, ?_⟩ <;> omega
theorem code_lt {x : G.Pos} (h0 : x.a < 257) (h1 : x.i < 257) (h2 : x.b < 257) (h3 : x.j < 257) : codeOf x < manyN := by
  rw [manyN_eq]
  unfold codeOf
  omega
def cntK (K : G.Pos → Bool) : Nat := (List.range manyN).countP fun m => !K (decOf m)
theorem countP_drop {α : Type} {p q : α → Bool} : ∀ (l : List α), (∀ m, m ∈ l → q m = true → p m = true) → (∃ m, m ∈ l ∧ p m = true ∧ q m = false) → l.countP q + 1 ≤ l.countP p
  | [], _, h => by obtain ⟨m, hm, _⟩ := h; cases hm
  | a :: l, h1, h2 => by
    have hm : ∀ m, m ∈ l → q m = true → p m = true := fun m hm => h1 m (List.mem_cons_of_mem _ hm)
    have le : l.countP q ≤ l.countP p := List.countP_mono_left hm
    rw [List.countP_cons, List.countP_cons]
    obtain ⟨m, hml, hp, hq⟩ := h2
    rcases List.mem_cons.1 hml with rfl | hml
    · rw [hp, hq]
      simp only [if_true, Bool.false_eq_true, if_false]
      omega
    · have := countP_drop l hm ⟨m, hml, hp, hq⟩
      have ha := h1 a (by simp)
      cases hqa : q a with
      | false => simp only [Bool.false_eq_true, if_false]; omega
      | true => rw [ha hqa]; simp only [if_true]; omega
def withK (K : G.Pos → Bool) (x : G.Pos) : G.Pos → Bool := fun y => decide (y = x) || K y
theorem cntK_with {K : G.Pos → Bool} {x : G.Pos} (hK : K x = false) (h0 : x.a < 257) (h1 : x.i < 257) (h2 : x.b < 257) (h3 : x.j < 257) : cntK (withK K x) + 1 ≤ cntK K := by
  refine countP_drop _ (fun m _ h => ?_) ⟨codeOf x, List.mem_range.2 (code_lt h0 h1 h2 h3), ?_, ?_⟩
  · simp only [withK, Bool.not_or, Bool.and_eq_true] at h
    exact h.2
  · rw [dec_code h1 h2 h3, hK]; rfl
  · rw [dec_code h1 h2 h3]
    simp [withK]
theorem cntK_le (K : G.Pos → Bool) : cntK K ≤ manyN := by
  have := List.countP_le_length (p := fun m => !K (decOf m)) (l := List.range manyN)
  rw [List.length_range] at this
  exact this

/-- No alternative is long, and there are not many. -/
structure Few (P Q : List (List G.El)) : Prop where
  lp : P.length ≤ 257
  lq : Q.length ≤ 257
  ep : ∀ a, a ∈ P → a.length ≤ 256
  eq : ∀ a, a ∈ Q → a.length ≤ 256
theorem getD_len {P : List (List G.El)} (h : ∀ a, a ∈ P → a.length ≤ 256) (a : Nat) : (P.getD a []).length ≤ 256 := by
  rw [List.getD_eq_getElem?_getD]
  cases hg : P[a]? with
  | none => simp
  | some l => exact h l (List.mem_of_getElem? hg)
theorem Few.pos {P Q : List (List G.El)} (h : Few P Q) {x : G.Pos} (hx : G.InP P Q x) : x.a < 257 ∧ x.i < 257 ∧ x.b < 257 ∧ x.j < 257 := by
  obtain ⟨a, b, c, d⟩ := hx
  have h1 := getD_len h.ep x.a
  have h2 := getD_len h.eq x.b
  have h3 := h.lp
  have h4 := h.lq
  omega
theorem Few.small {P Q : List (List G.El)} (h : Few P Q) {x : G.Pos} (hx : G.InP P Q x) : Small x := by
  have := h.pos hx
  unfold Small
  omega
theorem Few.sm {P Q : List (List G.El)} (h : Few P Q) {x : G.Pos} (hx : G.InP P Q x) : x.i ≤ 256 ∧ x.j ≤ 256 := by
  have := h.pos hx
  omega

theorem Few.cost {P Q : List (List G.El)} (h : Few P Q) (x : G.Pos) : G.toI (G.cOf P Q x) ≤ 512 := by
  have h1 := G.toI_le P Q x
  have h2 := getD_len h.ep x.a
  have h3 := getD_len h.eq x.b
  have h4 : G.muOf P Q x ≤ 512 := by unfold G.muOf; omega
  omega

/-- Block mb is the map of costs; K: of which pairs it knows the cost. -/
def Costs (w : World) (mb : Nat) (P Q : List (List G.El)) (K : G.Pos → Bool) : Prop :=
  ∃ (n : Nat) (D : DataW Unit), w.ownsMap Try.prog 86 (plainElem Try.prog 3) mb n D ∧ (∀ x, G.InP P Q x → Maps.has D (keyL x) = K x) ∧
    (∀ x, G.InP P Q x → K x = true → D.atKey (keyL x) (.lit (.int .i64 0)) = .lit (.int .i64 (G.toI (G.cOf P Q x)))) ∧ n + cntK K ≤ manyN

theorem Costs.isMap {w : World} {mb : Nat} {P Q : List (List G.El)} {K : G.Pos → Bool} (h : Costs w mb P Q K) : ∃ es c, w.heap[mb]? = some (.map es c) := by
  obtain ⟨n, D, ⟨es, c, hb, _⟩, _⟩ := h
  exact ⟨es, c, hb⟩
theorem Costs.lt {w : World} {mb : Nat} {P Q : List (List G.El)} {K : G.Pos → Bool} (h : Costs w mb P Q K) : mb < w.heap.size := by
  obtain ⟨es, c, hb⟩ := h.isMap
  exact (Array.getElem?_eq_some_iff.1 hb).1
theorem Costs.heap {w w' : World} {mb : Nat} {P Q : List (List G.El)} {K : G.Pos → Bool} (h : Costs w mb P Q K) (hw : w'.heap[mb]? = w.heap[mb]?) : Costs w' mb P Q K := by
  obtain ⟨n, D, ⟨es, c, hb, rest⟩, hr⟩ := h
  exact ⟨n, D, ⟨es, c, hw.trans hb, rest⟩, hr⟩
theorem Costs.only {S : Nat → Prop} {w w' : World} {mb : Nat} {P Q : List (List G.El)} {K : G.Pos → Bool} (h : Costs w mb P Q K) (ho : Only S w w') (hS : ¬ S mb) : Costs w' mb P Q K :=
  h.heap (ho.block mb h.lt hS)
theorem Costs.start (w : World) (P Q : List (List G.El)) : Costs (w.alloc (.map #[] 0)) w.heap.size P Q fun _ => false :=
  ⟨0, .map [], World.ownsMap_made _ _ _ _, fun _ _ => rfl, fun _ _ h => (by cases h), by have := cntK_le fun _ => false; omega⟩

theorem Costs.look {w : World} {mb : Nat} {P Q : List (List G.El)} {K : G.Pos → Bool} (h : Costs w mb P Q K) {x : G.Pos} (hx : G.InP P Q x) (hsm : Small x) :
    ∃ c : Int, (∀ W : World, W.heap = w.heap → (Instr.lookup 79 (.map (some mb)) (.agg #[.int .i64 x.a, .int .i64 x.i, .int .i64 x.b, .int .i64 x.j]) true).run Try.prog W = .ok (.tuple #[.int .i64 c, .bool (K x)]) W) ∧ (K x = true → c = G.toI (G.cOf P Q x)) := by
  obtain ⟨n, D, ho, hh, hv, _⟩ := h
  have all : ∀ W : World, W.heap = w.heap → ∃ c : Int, (Instr.lookup 79 (.map (some mb)) (.agg #[.int .i64 x.a, .int .i64 x.i, .int .i64 x.b, .int .i64 x.j]) true).run Try.prog W = .ok (.tuple #[.int .i64 c, .bool (K x)]) W ∧ D.atKey (keyL x) (.lit (.int .i64 0)) = .lit (.int .i64 c) := fun W hW => by
    have ho' : W.ownsMap Try.prog 86 (plainElem Try.prog 3) mb n D := by
      obtain ⟨es, c, hb, rest⟩ := ho
      exact ⟨es, c, by rw [hW]; exact hb, rest⟩
    obtain ⟨v, ps, hrun, hv⟩ := ho'.look_ok lawP Try.underlying79 (zeroI W) (plainElem_int Try.underlying3 (by decide)) (key_pos hsm)
    obtain ⟨c, rfl, hc, _⟩ := plainElem_int_inv Try.underlying3 hv
    rw [hh x hx] at hrun
    exact ⟨c, hrun, congrArg Prod.fst hc⟩
  obtain ⟨c, hrun, hc⟩ := all w rfl
  refine ⟨c, fun W hW => ?_, fun hk => ?_⟩
  · obtain ⟨c', hrun', hc'⟩ := all W hW
    rw [hc] at hc'
    cases hc'
    exact hrun'
  · have := hv x hx hk
    rw [hc] at this
    cases this
    rfl

/-- Behind a store of the cost of a pair that was not known. -/
theorem Costs.put {w' : World} {mb n : Nat} {P Q : List (List G.El)} {K : G.Pos → Bool} {D : DataW Unit} (hf : Few P Q) {x : G.Pos} (hx : G.InP P Q x) (hK : K x = false)
    (hD : IsMap D) (hh : ∀ x, G.InP P Q x → Maps.has D (keyL x) = K x) (hv : ∀ x, G.InP P Q x → K x = true → D.atKey (keyL x) (.lit (.int .i64 0)) = .lit (.int .i64 (G.toI (G.cOf P Q x)))) (hn : n + cntK K ≤ manyN)
    (ho : w'.ownsMap Try.prog 86 (plainElem Try.prog 3) mb (n + 1) (D.put (keyL x) (.lit (.int .i64 (G.toI (G.cOf P Q x)))))) : Costs w' mb P Q (withK K x) := by
  obtain ⟨h0, h1, h2, h3⟩ := hf.pos hx
  have hkl : WideAt.IsKeyLit (keyL x) := trivial
  refine ⟨n + 1, _, ho, fun y hy => ?_, fun y hy hky => ?_, by have := cntK_with hK h0 h1 h2 h3; omega⟩
  · by_cases e : y = x
    · subst e
      rw [has_put_same hD hkl]
      simp [withK]
    · rw [has_put_other (fun he => e (keyL_inj (hf.small hy) (hf.small hx) he)), hh y hy]
      simp [withK, e]
  · by_cases e : y = x
    · subst e
      exact atKey_put_same hD hkl _ _
    · rw [atKey_put_other (fun he => e (keyL_inj (hf.small hy) (hf.small hx) he))]
      refine hv y hy ?_
      simpa [withK, e] using hky

/-! What a call of 'cost' leaves as it was. -/
theorem own_map {w w' : World} {mb B size n : Nat} {e : TypeId} {v : Value} {xs : List Value} (h : w.ownsRow B e size v n xs) (hm : ∃ es c, w.heap[mb]? = some (.map es c)) (ho : Only (fun k => k = mb) w w') : w'.ownsRow B e size v n xs := by
  refine own_only h ho fun g hg hs => ?_
  obtain ⟨es, c, hm⟩ := hm
  rcases h.2 with ⟨rfl, _⟩ | ⟨k, cap, cur, rfl, _, hk, _⟩
  · cases hg
  · simp only [Value.ownBlock, Option.some.injEq] at hg
    subst hg
    subst hs
    rw [hm] at hk
    cases hk
theorem blk_map {w : World} {mb g : Nat} {t : TypeId} {cs : Array Value} (h : Blk w g t cs) (hm : ∃ es c, w.heap[mb]? = some (.map es c)) : g ≠ mb := by
  rintro rfl
  obtain ⟨es, c, hm⟩ := hm
  unfold Blk at h
  rw [hm] at h
  cases h
theorem Alts.map {w w' : World} {mb B : Nat} {v : Value} {l : List (List G.El)} (h : Alts w B v l) (hm : ∃ es c, w.heap[mb]? = some (.map es c)) (ho : Only (fun k => k = mb) w w') : Alts w' B v l := by
  obtain ⟨vs, h1, h2⟩ := h
  exact ⟨vs, own_map h1 hm ho, fun i a hi => by
    obtain ⟨u, hu, hr⟩ := h2 i a hi
    exact ⟨u, hu, own_map hr hm ho⟩⟩
theorem Sch.only {w w' : World} {B sb mb : Nat} {vp vq : Value} {P Q : List (List G.El)} (h : Sch w B sb mb vp vq P Q) (hm : ∃ es c, w.heap[mb]? = some (.map es c)) (ho : Only (fun k => k = mb) w w') : Sch w' B sb mb vp vq P Q :=
  ⟨h.blk.only ho (blk_map h.blk hm), h.ap.map hm ho, h.aq.map hm ho⟩

/-- What a call of 'cost' answers. -/
def CostPost (P Q : List (List G.El)) (mb : Nat) (K : G.Pos → Bool) (x : G.Pos) (w : World) (e : Ending) (w' : World) : Prop :=
  e = .returned (.int .i64 (G.toI (G.cOf P Q x))) ∧ Only (fun k => k = mb) w w' ∧ ∃ K', Costs w' mb P Q K' ∧ ∀ y, K' y = true → K y = true ∨ G.muOf P Q y ≤ G.muOf P Q x

end Go.Proofs.Ytfihccfjboopiaa
