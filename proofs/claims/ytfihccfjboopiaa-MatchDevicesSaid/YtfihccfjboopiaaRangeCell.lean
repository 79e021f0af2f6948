/-
  A RANGE OVER AN ITERATOR THAT KEEPS A NUMBER OF ITS OWN IN A CELL (block c), AND A BODY THAT NEVER LEAVES.
-/
import Derived.RangeFuncNested
import Derived.RangeFuncBound
import Derived.RangeFuncCalls
import Derived.RangeFuncLeaves
import Derived.WalkKit
import Derived.OwnWalkIn
import Derived.TacticsInMore
import Derived.LoopNIn
import Derived.LoopIn
namespace Go.Proofs.Ytfihccfjboopiaa
open Go Go.RowKit

/-- What new blocks and turns of block c leave true. -/
def AbidesC {β : Type} (c : Nat) (J : β → World → Prop) : Prop :=
  ∀ s W W' row, J s W → W.grownBy W' row → (∀ r, row = some r → r = c) → J s W'
/-- What new blocks, turns of block c, and turns of blocks from B on that hold no cells leave true. -/
def OwnC {β : Type} (c B : Nat) (I : β → World → Prop) : Prop :=
  ∀ s W W' row, I s W → W.grownBy W' row → (∀ r, row = some r → r = c ∨ (B ≤ r ∧ ∃ o : Obj, W.heap[r]? = some o ∧ o.isCells = false)) → I s W'
theorem OwnC.alloc {β : Type} {c B : Nat} {I : β → World → Prop} (h : OwnC c B I) {s : β} {W : World} (o : Obj) (hs : I s W) : I s (W.alloc o) :=
  h s W _ none hs (World.grownBy_alloc W o none) (fun r e => by cases e)
theorem OwnC.putObj {β : Type} {c B : Nat} {I : β → World → Prop} (h : OwnC c B I) {s : β} {W : World} {l : Nat} {o : Obj} (o' : Obj) (hs : I s W) (hB : B ≤ l) (hl : W.heap[l]? = some o) (ho : o.isCells = false) : I s (W.putObj l o') :=
  h s W _ (some l) hs (grownBy_putObj' W l o') (fun r e => by cases e; exact .inr ⟨hB, o, hl, ho⟩)
theorem OwnC.and {β : Type} {c B : Nat} {I I' : β → World → Prop} (h : OwnC c B I) (h' : OwnC c B I') : OwnC c B (fun s W => I s W ∧ I' s W) := fun s W W' row hs hg hr => ⟨h s W W' row hs.1 hg hr, h' s W W' row hs.2 hg hr⟩

/-- What a round keeps for the iterator: the blocks that X names, and what the iterator has laid since W0. -/
def KeepX (X : Nat → Prop) (W0 A B : World) : Prop := ∀ j, j < A.heap.size → (X j ∨ W0.heap.size ≤ j) → B.heap[j]? = A.heap[j]?
theorem KeepX.trans {X : Nat → Prop} {W0 A B C : World} (h : KeepX X W0 A B) (k : KeepX X W0 B C) (hs : A.heap.size ≤ B.heap.size) : KeepX X W0 A C := fun j hj hx => (k j (by omega) hx).trans (h j hj hx)
theorem KeepX.grown {X : Nat → Prop} {W0 A B : World} (h : A.grownBy B none) : KeepX X W0 A B := fun j hj _ => h.block j hj (fun e => by cases e)
/-- The promise of such an iterator: it hands over the elements of a list that meets S, whatever the rounds do that go on and keep what X names and what the iterator has laid. -/
def SeqC {α : Type} (F : Fence) (n : Nat) (P : Program) (g : Nat) (lb : Array Value) (encs : α → Array Value) (G : α → Prop) (X : Nat → Prop) (S : List α → Prop) (N c : Nat) (w : World) : Prop :=
  ∀ (l : Nat) (J : List α → World → Prop) (W : World), Below w.heap.size w W → AbidesC c J →
    (∀ pre x W0 W1, G x → J pre W0 → W0.grownBy W1 none → pre.length < N → YieldAt F (n - 1) P l (encs x) W1 fun e W' => e = .returned (.bool true) ∧ J (pre ++ [x]) W' ∧ KeepX X W0 W1 W') →
    J [] W →
    CallsIn F n P g (#[.func (.yield l) #[] #[]] ++ lb) W fun e W' => (∃ v, e = .returned v) ∧ ∃ xs, S xs ∧ J xs W'

/-- How the body of a round is left: it goes on. -/
def onPost {α : Type} (B : Nat) (X : Nat → Prop) (W0 : World) (I : List α → World → Prop) (xs : List α) (W : World) : Exit → Act → World → Prop
  | .normal, _, W' => KeepsFrom B W W' ∧ KeepX X W0 W W' ∧ I xs W'
  | _, _, _ => False

variable {F : Fence} {n : Nat} {P : Program}

theorem wpIn_rangeFunc_cell {α : Type} {g : Operand} {ps : Array Tmp} {assign body : Code} {Q : Exit → Act → World → Prop} {a : Act} {w : World} {c : Nat}
    (hro : F.round = none) (h1 : 1 ≤ n) (hc : c < w.heap.size) {gf : Nat} {lb : Array Value} (hg : a.eval g = .func (.func gf) #[] lb) (hFg : F.fn gf) (eg : ∀ args w, (callFunc gf args).run P w = .ok (.enter gf args) w)
    {encs : α → Array Value} {G : α → Prop} {X : Nat → Prop} {S : List α → Prop} {N : Nat} (hX : ∀ j, X j → j < w.heap.size) (hseq : SeqC F (n - 1) P gf lb encs G X S N c w) (hps : ∀ x, (encs x).size = ps.size)
    (I : List α → World → Prop) (hI : OwnC c w.heap.size I) (h0 : I [] w) (Ax : α → Act → World → Prop) (hAx : ∀ x a', OwnC c w.heap.size (fun (_ : Unit) W => Ax x a' W))
    (hassign : ∀ (l : Nat) (x : α) (W : World) (K : Act → World → Prop), w.heap.size < W.heap.size → (∀ a' W', W.grownBy W' none → Ax x a' W' → K a' W') →
      assign.wpIn (F.inRound l) (n - 1 - 1) P (Exit.then K (fun _ _ _ => False)) { tmps := (ps.zip (encs x)).foldl (fun t (p, v) => t.setIfInBounds p v) a.tmps, defers := [] } W)
    (hbody : ∀ (l : Nat) (pre : List α) (x : α) (a' : Act) (W0 W : World), G x → I pre W0 → I pre W → W0.heap.size ≤ W.heap.size → (∀ (j : Nat) (cs : Array Value) (t : TypeId) (fr : Nat × Nat), W0.heap[j]? = some (Obj.cells cs t fr) → W.heap[j]? = W0.heap[j]?) → w.heap.size < W0.heap.size → Ax x a' W → pre.length < N → body.wpIn (F.inRound l) (n - 1 - 1) P (onPost w.heap.size X W0 I (pre ++ [x]) W) a' W)
    (hdone : ∀ (D : Nat) (xs : List α) (W : World), w.heap.size ≤ D → S xs → I xs W → W.heap[D]? = some (.deferred (some [])) → Q .normal { a with defers := { target := .collected D, args := #[] } :: a.defers } W) :
    (Code.rangeFunc g ps assign body).wpIn F n P Q a w := by
  refine wpIn_rangeFunc ?_
  intro fn hfn
  rw [hro]
  -- the loop's record: ready, busy or done; the two blocks that the loop lays: D (deferred calls of the rounds) and D + 1 (the record)
  obtain ⟨rec, hrec⟩ : ∃ rec : LoopState → Option Code → Loop, rec = fun st pe => { state := st, pending := pe, fn, tmps := a.tmps, params := ps, assign, body, defers := w.heap.size } := ⟨_, rfl⟩
  obtain ⟨D, hD⟩ : ∃ D, w.heap.size = D := ⟨_, rfl⟩
  let Bk : LoopState → World → Prop := fun st W => W.heap[D + 1]? = some (.loop (rec st none)) ∧ W.heap[D]? = some (.deferred (some []))
  obtain ⟨W1, hW1⟩ : ∃ W1, (w.alloc (.deferred (some []))).alloc (.loop (rec .ready none)) = W1 := ⟨_, rfl⟩
  have hB1 : Bk .ready W1 := by
    refine ⟨?_, ?_⟩
    · rw [← hW1, ← hD]; have := World.alloc_heap_new (w.alloc (.deferred (some []))) (.loop (rec .ready none)); rwa [World.size_alloc] at this
    · rw [← hW1, ← hD]; exact (Below.heap_alloc _ _ _ (by simp)).trans (World.alloc_heap_new w _)
  have hI1 : I [] W1 := by rw [← hW1]; exact hI.alloc _ (hI.alloc _ h0)
  have hb1 : Below w.heap.size w W1 := by
    rw [← hW1]; exact ((Below.refl _ w).alloc (Nat.le_refl _) _).alloc (by simp) _
  refine ⟨D + 1, [{ target := .collected D, args := #[] }], W1, { target := .fn (.func gf) lb, args := #[.func (.yield (D + 1)) #[] #[]] }, W1, gf,
    #[.func (.yield (D + 1)) #[] #[]] ++ lb, W1, ?_, ?_, ?_, ?_, fun _ => h1, ?_⟩
  · rw [← hW1, hrec, ← hD]; exact run_enterLoop_outer _ _ _ _ _
  · simp only [resolve, hg]
    simp [go_sem]
  · intro f' hf'; simp [Target.leads] at hf'; subst hf'; exact hFg
  · simp [invoke, go_sem, eg]
  · refine (hseq (D + 1) (fun pre W => I pre W ∧ Bk .ready W) W1 hb1 (fun s A B row hs hgr hr => ?_) ?_ ⟨hI1, hB1⟩).mono ?_
    · -- the iterator's steps leave the two blocks
      have ne1 : some (D + 1) ≠ row := fun e => by have := hr _ e.symm; omega
      have ne0 : some D ≠ row := fun e => by have := hr _ e.symm; omega
      exact ⟨hI s A B row hs.1 hgr (fun r e => .inl (hr r e)), (hgr.block _ (Array.getElem?_eq_some_iff.1 hs.2.1).1 ne1).trans hs.2.1, (hgr.block _ (Array.getElem?_eq_some_iff.1 hs.2.2).1 ne0).trans hs.2.2⟩
    · -- one round
      rintro pre x V0 W hGx ⟨hi0, hl0, hk0⟩ hgr0 hlen
      have hlt0 : D + 1 < V0.heap.size := (Array.getElem?_eq_some_iff.1 hl0).1
      have hl : W.heap[D + 1]? = _ := (hgr0.block _ hlt0 (fun e => by cases e)).trans hl0
      have hk : W.heap[D]? = _ := (hgr0.block _ (by omega) (fun e => by cases e)).trans hk0
      have hi : I pre W := hI pre V0 W none hi0 hgr0 (fun r e => by cases e)
      have hy := run_yield (P := P) (args := encs x) hl (by rw [hrec]; exact hps x)
      rw [hrec] at hy
      have hltW : w.heap.size < W.heap.size := by have := hgr0.size; omega
      refine ⟨fn, _, assign, body, hy, roundIn_of_wpIn hfn (hassign _ x W _ hltW ?_)⟩
      clear hy
      intro a' Wa hga hax
      have hl1 : Wa.heap[D + 1]? = _ := (hga.block _ (by have := hgr0.size; omega) (fun e => by cases e)).trans hl
      have hk1 : Wa.heap[D]? = _ := (hga.block _ (by have := hgr0.size; omega) (fun e => by cases e)).trans hk
      have hia : I pre Wa := hI pre W Wa none hi hga (fun r e => by cases e)
      have hlt : D + 1 < Wa.heap.size := (Array.getElem?_eq_some_iff.1 hl1).1
      refine ⟨_, run_beginRound hl1 (by rw [hrec]), ?_⟩
      obtain ⟨Wb, hWb⟩ : ∃ Wb, Wa.putObj (D + 1) (.loop { rec .ready none with state := .busy }) = Wb := ⟨_, rfl⟩
      rw [hWb]
      have hl2 : Wb.heap[D + 1]? = some (.loop { rec .ready none with state := .busy }) := by rw [← hWb]; exact World.putObj_heap_same hlt
      have hk2 : Wb.heap[D]? = some (.deferred (some [])) := by rw [← hWb]; exact (World.putObj_heap_other (by omega)).trans hk1
      have hib : I pre Wb := by rw [← hWb]; exact hI.putObj _ hia (by omega) hl1 rfl
      have haxb : Ax x a' Wb := by rw [← hWb]; exact (hAx x a').putObj (s := ()) _ hax (by omega) hl1 rfl
      have hgb : Wa.grownBy Wb (some (D + 1)) := by rw [← hWb]; exact grownBy_putObj' _ _ _
      have put : ∀ (A B : World), A.grownBy B (some (D + 1)) → KeepX X V0 A B := fun A B hgr j hj hx => hgr.block j hj (fun e => by
        have e : j = D + 1 := Option.some.inj e
        rcases hx with hx | hx
        · have := hX j hx; omega
        · omega)
      have hsb : V0.heap.size ≤ Wb.heap.size := Nat.le_trans hgr0.size (Nat.le_trans hga.size hgb.size)
      have hcl : ∀ (j : Nat) (cs : Array Value) (t : TypeId) (fr : Nat × Nat), V0.heap[j]? = some (Obj.cells cs t fr) → Wb.heap[j]? = V0.heap[j]? := fun j cs t fr hj => by
        have hj0 := (Array.getElem?_eq_some_iff.1 hj).1
        have hne : some j ≠ some (D + 1) := fun e => by
          cases e
          rw [hl0] at hj
          cases hj
        exact (hgb.block j (by have := hgr0.size; have := hga.size; omega) hne).trans ((hga.block j (by have := hgr0.size; omega) (fun e => by cases e)).trans (hgr0.block j hj0 (fun e => by cases e)))
      refine wpIn_mono (hbody _ pre x a' V0 Wb hGx hi0 hib hsb hcl (by omega) haxb hlen) ?_
      rintro e a3 W3 hp
      cases e with
      | normal =>
        obtain ⟨hk3, hkp3, hi3⟩ := hp
        have hl3 := hk3.same _ _ (by omega) hl2 rfl
        have hd3 := hk3.same _ _ (by omega) hk2 rfl
        have hr := run_endRound (P := P) none hl3
        have hltD := (Array.getElem?_eq_some_iff.1 hl3).1
        have hi4 : ∀ o', I (pre ++ [x]) (W3.putObj (D + 1) o') := fun o' => hI.putObj o' hi3 (by omega) hl3 rfl
        have hkx : ∀ o', KeepX X V0 W (W3.putObj (D + 1) o') := fun o' =>
          ((KeepX.grown hga).trans ((put _ _ hgb).trans (hkp3.trans (put _ _ (grownBy_putObj' _ _ o')) hk3.size) hgb.size) hga.size)
        rw [hrec] at hr
        refine ⟨_, _, hr, rfl, ⟨hi4 _, ?_, ?_⟩, hkx _⟩
        · rw [hrec]; exact World.putObj_heap_same hltD
        · exact (World.putObj_heap_other (by omega)).trans hd3
      | _ => exact hp.elim
    · rintro e W2 ⟨⟨v, rfl⟩, xs, hS, hi, hl, hk⟩
      have hr := run_endLoop (P := P) hl (by rw [hrec]; simp)
      rw [hrec] at hr
      exact ⟨none, _, hr, hdone D xs _ (by omega) hS (hI.putObj _ hi (by omega) hl rfl) ((World.putObj_heap_other (by omega)).trans hk)⟩

end Go.Proofs.Ytfihccfjboopiaa
