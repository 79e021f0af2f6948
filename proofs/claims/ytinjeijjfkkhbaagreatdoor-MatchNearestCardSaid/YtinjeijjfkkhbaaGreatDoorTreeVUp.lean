/-
  A RANGE OVER AN ITERATOR THAT KEEPS A NUMBER OF ITS OWN IN A CELL (block c), AND A BODY THAT NEVER LEAVES.
  THE ITERATOR of tree's (view).up: a device and its ancestors.
  THE WALK of (view).up: the iterator's maker.
-/
import Derived.RangeFuncNested
import Derived.RangeFuncBound
import Derived.RangeFuncCalls
import Derived.RangeFuncLeaves
import Derived.WalkKit
import Derived.OwnWalkIn
import Derived.TacticsInMore
import Derived.LoopNIn
import Derived.LoopIn
import Derived.Test.YtinjeijjfkkhbaaGreatDoorTreeVFind
import Derived.Shelf.Abstract
import Derived.Shelf.RegionOpen
namespace Go.Proofs.YtinjeijjfkkhbaaGreatDoor
open Go Go.RowKit

/-- What new blocks and turns of block c leave true. -/
def AbidesC {β : Type} (c : Nat) (J : β → World → Prop) : Prop :=
  ∀ s W W' row, J s W → W.grownBy W' row → (∀ r, row = some r → r = c) → J s W'
/-- What new blocks, turns of block c, and turns of blocks from B on that hold no cells leave true. -/
def OwnC {β : Type} (c B : Nat) (I : β → World → Prop) : Prop :=
  ∀ s W W' row, I s W → W.grownBy W' row → (∀ r, row = some r → r = c ∨ (B ≤ r ∧ ∃ o : Obj, W.heap[r]? = some o ∧ o.isCells = false)) → I s W'
theorem OwnC.alloc {β : Type} {c B : Nat} {I : β → World → Prop} (h : OwnC c B I) {s : β} {W : World} (o : Obj) (hs : I s W) : I s (W.alloc o) :=
  h s W _ none hs (World.grownBy_alloc W o none) (fun r e => by cases e)
theorem OwnC.putObj {β : Type} {c B : Nat} {I : β → World → Prop} (h : OwnC c B I) {s : β} {W : World} {l : Nat} {o : Obj} (o' : Obj) (hs : I s W) (hB : B ≤ l) (hl : W.heap[l]? = some o) (ho : o.isCells = false) : I s (W.putObj l o') :=
  h s W _ (some l) hs (grownBy_putObj' W l o') (fun r e => by cases e; exact .inr ⟨hB, o, hl, ho⟩)
theorem OwnC.and {β : Type} {c B : Nat} {I I' : β → World → Prop} (h : OwnC c B I) (h' : OwnC c B I') : OwnC c B (fun s W => I s W ∧ I' s W) := fun s W W' row hs hg hr => ⟨h s W W' row hs.1 hg hr, h' s W W' row hs.2 hg hr⟩

/-- What a round keeps for the iterator: the blocks that X names, and what the iterator has laid since W0. -/
def KeepX (X : Nat → Prop) (W0 A B : World) : Prop := ∀ j, j < A.heap.size → (X j ∨ W0.heap.size ≤ j) → B.heap[j]? = A.heap[j]?
theorem KeepX.trans {X : Nat → Prop} {W0 A B C : World} (h : KeepX X W0 A B) (k : KeepX X W0 B C) (hs : A.heap.size ≤ B.heap.size) : KeepX X W0 A C := fun j hj hx => (k j (by omega) hx).trans (h j hj hx)
theorem KeepX.grown {X : Nat → Prop} {W0 A B : World} (h : A.grownBy B none) : KeepX X W0 A B := fun j hj _ => h.block j hj (fun e => by cases e)
/-- The promise of such an iterator: it hands over the elements of a list that meets S, whatever the rounds do that go on and keep what X names and what the iterator has laid. -/
def SeqC {α : Type} (F : Fence) (n : Nat) (P : Program) (g : Nat) (lb : Array Value) (encs : α → Array Value) (G : α → Prop) (X : Nat → Prop) (S : List α → Prop) (N c : Nat) (w : World) : Prop :=
  ∀ (l : Nat) (J : List α → World → Prop) (W : World), Below w.heap.size w W → AbidesC c J →
    (∀ pre x W0 W1, G x → J pre W0 → W0.grownBy W1 none → pre.length < N → YieldAt F (n - 1) P l (encs x) W1 fun e W' => e = .returned (.bool true) ∧ J (pre ++ [x]) W' ∧ KeepX X W0 W1 W') →
    J [] W →
    CallsIn F n P g (#[.func (.yield l) #[] #[]] ++ lb) W fun e W' => (∃ v, e = .returned v) ∧ ∃ xs, S xs ∧ J xs W'

/-- How the body of a round is left: it goes on. -/
def onPost {α : Type} (B : Nat) (X : Nat → Prop) (W0 : World) (I : List α → World → Prop) (xs : List α) (W : World) : Exit → Act → World → Prop
  | .normal, _, W' => KeepsFrom B W W' ∧ KeepX X W0 W W' ∧ I xs W'
  | _, _, _ => False

variable {F : Fence} {n : Nat} {P : Program}

theorem wpIn_rangeFunc_cell {α : Type} {g : Operand} {ps : Array Tmp} {assign body : Code} {Q : Exit → Act → World → Prop} {a : Act} {w : World} {c : Nat}
    (hro : F.round = none) (h1 : 1 ≤ n) (hc : c < w.heap.size) {gf : Nat} {lb : Array Value} (hg : a.eval g = .func (.func gf) #[] lb) (hFg : F.fn gf) (eg : ∀ args w, (callFunc gf args).run P w = .ok (.enter gf args) w)
    {encs : α → Array Value} {G : α → Prop} {X : Nat → Prop} {S : List α → Prop} {N : Nat} (hX : ∀ j, X j → j < w.heap.size) (hseq : SeqC F (n - 1) P gf lb encs G X S N c w) (hps : ∀ x, (encs x).size = ps.size)
    (I : List α → World → Prop) (hI : OwnC c w.heap.size I) (h0 : I [] w) (Ax : α → Act → World → Prop) (hAx : ∀ x a', OwnC c w.heap.size (fun (_ : Unit) W => Ax x a' W))
    (hassign : ∀ (l : Nat) (x : α) (W : World) (K : Act → World → Prop), w.heap.size < W.heap.size → (∀ a' W', W.grownBy W' none → Ax x a' W' → K a' W') →
      assign.wpIn (F.inRound l) (n - 1 - 1) P (Exit.then K (fun _ _ _ => False)) { tmps := (ps.zip (encs x)).foldl (fun t (p, v) => t.setIfInBounds p v) a.tmps, defers := [] } W)
    (hbody : ∀ (l : Nat) (pre : List α) (x : α) (a' : Act) (W0 W : World), G x → I pre W0 → I pre W → W0.heap.size ≤ W.heap.size → (∀ (j : Nat) (cs : Array Value) (t : TypeId) (fr : Nat × Nat), W0.heap[j]? = some (Obj.cells cs t fr) → W.heap[j]? = W0.heap[j]?) → w.heap.size < W0.heap.size → Ax x a' W → pre.length < N → body.wpIn (F.inRound l) (n - 1 - 1) P (onPost w.heap.size X W0 I (pre ++ [x]) W) a' W)
    (hdone : ∀ (D : Nat) (xs : List α) (W : World), w.heap.size ≤ D → S xs → I xs W → W.heap[D]? = some (.deferred (some [])) → Q .normal { a with defers := { target := .collected D, args := #[] } :: a.defers } W) :
    (Code.rangeFunc g ps assign body).wpIn F n P Q a w := by
  refine wpIn_rangeFunc ?_
  intro fn hfn
  rw [hro]
  -- the loop's record: ready, busy or done; the two blocks that the loop lays: D (deferred calls of the rounds) and D + 1 (the record)
  obtain ⟨rec, hrec⟩ : ∃ rec : LoopState → Option Code → Loop, rec = fun st pe => { state := st, pending := pe, fn, tmps := a.tmps, params := ps, assign, body, defers := w.heap.size } := ⟨_, rfl⟩
  obtain ⟨D, hD⟩ : ∃ D, w.heap.size = D := ⟨_, rfl⟩
  let Bk : LoopState → World → Prop := fun st W => W.heap[D + 1]? = some (.loop (rec st none)) ∧ W.heap[D]? = some (.deferred (some []))
  obtain ⟨W1, hW1⟩ : ∃ W1, (w.alloc (.deferred (some []))).alloc (.loop (rec .ready none)) = W1 := ⟨_, rfl⟩
  have hB1 : Bk .ready W1 := by
    refine ⟨?_, ?_⟩
    · rw [← hW1, ← hD]; have := World.alloc_heap_new (w.alloc (.deferred (some []))) (.loop (rec .ready none)); rwa [World.size_alloc] at this
    · rw [← hW1, ← hD]; exact (Below.heap_alloc _ _ _ (by simp)).trans (World.alloc_heap_new w _)
  have hI1 : I [] W1 := by rw [← hW1]; exact hI.alloc _ (hI.alloc _ h0)
  have hb1 : Below w.heap.size w W1 := by
    rw [← hW1]; exact ((Below.refl _ w).alloc (Nat.le_refl _) _).alloc (by simp) _
  refine ⟨D + 1, [{ target := .collected D, args := #[] }], W1, { target := .fn (.func gf) lb, args := #[.func (.yield (D + 1)) #[] #[]] }, W1, gf,
    #[.func (.yield (D + 1)) #[] #[]] ++ lb, W1, ?_, ?_, ?_, ?_, fun _ => h1, ?_⟩
  · rw [← hW1, hrec, ← hD]; exact run_enterLoop_outer _ _ _ _ _
  · simp only [resolve, hg]
    simp [go_sem]
  · intro f' hf'; simp [Target.leads] at hf'; subst hf'; exact hFg
  · simp [invoke, go_sem, eg]
  · refine (hseq (D + 1) (fun pre W => I pre W ∧ Bk .ready W) W1 hb1 (fun s A B row hs hgr hr => ?_) ?_ ⟨hI1, hB1⟩).mono ?_
    · -- the iterator's steps leave the two blocks
      have ne1 : some (D + 1) ≠ row := fun e => by have := hr _ e.symm; omega
      have ne0 : some D ≠ row := fun e => by have := hr _ e.symm; omega
      exact ⟨hI s A B row hs.1 hgr (fun r e => .inl (hr r e)), (hgr.block _ (Array.getElem?_eq_some_iff.1 hs.2.1).1 ne1).trans hs.2.1, (hgr.block _ (Array.getElem?_eq_some_iff.1 hs.2.2).1 ne0).trans hs.2.2⟩
    · -- one round
      rintro pre x V0 W hGx ⟨hi0, hl0, hk0⟩ hgr0 hlen
      have hlt0 : D + 1 < V0.heap.size := (Array.getElem?_eq_some_iff.1 hl0).1
      have hl : W.heap[D + 1]? = _ := (hgr0.block _ hlt0 (fun e => by cases e)).trans hl0
      have hk : W.heap[D]? = _ := (hgr0.block _ (by omega) (fun e => by cases e)).trans hk0
      have hi : I pre W := hI pre V0 W none hi0 hgr0 (fun r e => by cases e)
      have hy := run_yield (P := P) (args := encs x) hl (by rw [hrec]; exact hps x)
      rw [hrec] at hy
      have hltW : w.heap.size < W.heap.size := by have := hgr0.size; omega
      refine ⟨fn, _, assign, body, hy, roundIn_of_wpIn hfn (hassign _ x W _ hltW ?_)⟩
      clear hy
      intro a' Wa hga hax
      have hl1 : Wa.heap[D + 1]? = _ := (hga.block _ (by have := hgr0.size; omega) (fun e => by cases e)).trans hl
      have hk1 : Wa.heap[D]? = _ := (hga.block _ (by have := hgr0.size; omega) (fun e => by cases e)).trans hk
      have hia : I pre Wa := hI pre W Wa none hi hga (fun r e => by cases e)
      have hlt : D + 1 < Wa.heap.size := (Array.getElem?_eq_some_iff.1 hl1).1
      refine ⟨_, run_beginRound hl1 (by rw [hrec]), ?_⟩
      obtain ⟨Wb, hWb⟩ : ∃ Wb, Wa.putObj (D + 1) (.loop { rec .ready none with state := .busy }) = Wb := ⟨_, rfl⟩
      rw [hWb]
      have hl2 : Wb.heap[D + 1]? = some (.loop { rec .ready none with state := .busy }) := by rw [← hWb]; exact World.putObj_heap_same hlt
      have hk2 : Wb.heap[D]? = some (.deferred (some [])) := by rw [← hWb]; exact (World.putObj_heap_other (by omega)).trans hk1
      have hib : I pre Wb := by rw [← hWb]; exact hI.putObj _ hia (by omega) hl1 rfl
      have haxb : Ax x a' Wb := by rw [← hWb]; exact (hAx x a').putObj (s := ()) _ hax (by omega) hl1 rfl
      have hgb : Wa.grownBy Wb (some (D + 1)) := by rw [← hWb]; exact grownBy_putObj' _ _ _
      have put : ∀ (A B : World), A.grownBy B (some (D + 1)) → KeepX X V0 A B := fun A B hgr j hj hx => hgr.block j hj (fun e => by
        have e : j = D + 1 := Option.some.inj e
        rcases hx with hx | hx
        · have := hX j hx; omega
        · omega)
      have hsb : V0.heap.size ≤ Wb.heap.size := Nat.le_trans hgr0.size (Nat.le_trans hga.size hgb.size)
      have hcl : ∀ (j : Nat) (cs : Array Value) (t : TypeId) (fr : Nat × Nat), V0.heap[j]? = some (Obj.cells cs t fr) → Wb.heap[j]? = V0.heap[j]? := fun j cs t fr hj => by
        have hj0 := (Array.getElem?_eq_some_iff.1 hj).1
        have hne : some j ≠ some (D + 1) := fun e => by
          cases e
          rw [hl0] at hj
          cases hj
        exact (hgb.block j (by have := hgr0.size; have := hga.size; omega) hne).trans ((hga.block j (by have := hgr0.size; omega) (fun e => by cases e)).trans (hgr0.block j hj0 (fun e => by cases e)))
      refine wpIn_mono (hbody _ pre x a' V0 Wb hGx hi0 hib hsb hcl (by omega) haxb hlen) ?_
      rintro e a3 W3 hp
      cases e with
      | normal =>
        obtain ⟨hk3, hkp3, hi3⟩ := hp
        have hl3 := hk3.same _ _ (by omega) hl2 rfl
        have hd3 := hk3.same _ _ (by omega) hk2 rfl
        have hr := run_endRound (P := P) none hl3
        have hltD := (Array.getElem?_eq_some_iff.1 hl3).1
        have hi4 : ∀ o', I (pre ++ [x]) (W3.putObj (D + 1) o') := fun o' => hI.putObj o' hi3 (by omega) hl3 rfl
        have hkx : ∀ o', KeepX X V0 W (W3.putObj (D + 1) o') := fun o' =>
          ((KeepX.grown hga).trans ((put _ _ hgb).trans (hkp3.trans (put _ _ (grownBy_putObj' _ _ o')) hk3.size) hgb.size) hga.size)
        rw [hrec] at hr
        refine ⟨_, _, hr, rfl, ⟨hi4 _, ?_, ?_⟩, hkx _⟩
        · rw [hrec]; exact World.putObj_heap_same hltD
        · exact (World.putObj_heap_other (by omega)).trans hd3
      | _ => exact hp.elim
    · rintro e W2 ⟨⟨v, rfl⟩, xs, hS, hi, hl, hk⟩
      have hr := run_endLoop (P := P) hl (by rw [hrec]; simp)
      rw [hrec] at hr
      exact ⟨none, _, hr, hdone D xs _ (by omega) hS (hI.putObj _ hi (by omega) hl rfl) ((World.putObj_heap_other (by omega)).trans hk)⟩

end Go.Proofs.YtinjeijjfkkhbaaGreatDoor

namespace Go.Proofs.YtinjeijjfkkhbaaGreatDoor
open Go Go.RowKit Go.Maps Go.Shelf
attribute [local go_sem] Oper.semAt_some

/-- A device and its ancestors, at most so many. -/
def chainD (l : List Dev) : Nat → Int → List Dev
  | 0, _ => []
  | f + 1, i => match lastD l i with
    | some d => d :: chainD l f d.par
    | none => []
theorem chainD_some {l : List Dev} {i : Int} {d : Dev} (h : lastD l i = some d) (f : Nat) : chainD l (f + 1) i = d :: chainD l f d.par := by rw [chainD, h]
theorem chainD_none {l : List Dev} {i : Int} (h : lastD l i = none) : ∀ f, chainD l f i = []
  | 0 => rfl
  | f + 1 => by rw [chainD, h]

def upX (n₀ bv b1 bi j : Nat) : Prop := j < n₀ ∨ j = bv ∨ j = b1 ∨ j = bi

set_option maxRecDepth 100000 in
set_option maxHeartbeats 2000000 in
theorem up_seq (n : Nat) (hn : 3 ≤ n) (l : List Dev) (p : Option Addr) (N c b1 b2 bv bi n₀ : Nat) (i0 : Int) (w : World) (h0 : n₀ ≤ w.heap.size)
    (hl : ∀ W, (∀ j, j < n₀ → W.heap[j]? = w.heap[j]?) → n₀ ≤ W.heap.size → DevsAt W (.slice p N c) l) (hN1000 : Hid (l.length = N)) (hNb : N ≤ 1000000000) (hwf : ∀ d ∈ l, Wf d.par)
    (hv : Blk w bv 70 #[.slice p N c, .map (some b1), .map (some b2)]) (hi : Blk w bi 3 #[.int .i64 i0]) (hwi : Wf i0) (hP : Places w b1 l N) (hvi : bv ≠ bi) (h1i : b1 ≠ bi) (h0i : n₀ ≤ bi) :
    SeqC Fence.wide n Tryz.prog 56 #[.pointer (some ⟨bv, 0, none⟩), .pointer (some ⟨bi, 0, none⟩)] (fun d => #[devV d]) (fun d => d ∈ l) (upX n₀ bv b1 bi) (fun xs => xs = chainD l N i0) N bi w := by
  intro lp J W hW hJ hY hJ0
  have hvW : Blk W bv 70 _ := hv.below hW hv.lt
  have hiW : Blk W bi 3 _ := hi.below hW hi.lt
  have hsame : ∀ j, (j < n₀ ∨ j = bv ∨ j = b1) → W.heap[j]? = w.heap[j]? := fun j hj => hW.block j (by
    rcases hj with h | h | h
    · omega
    · rw [h]; exact hv.lt
    · rw [h]; exact hP.lt)
  have hsz := hW.size
  refine callsIn_of_wp Tryz.func56 rfl trivial ?_ rfl
  simp only [Tryz.ntmps56, List.size_toArray, List.length_cons, List.length_nil, Nat.reduceAdd, Nat.reduceSub, Array.replicate_succ, Array.replicate_zero, List.push_toArray, List.append_toArray, List.nil_append, List.cons_append]
  have c0 := hvW.cell 0
  simp only [List.getElem?_toArray, List.getElem?_cons_zero] at c0
  have hvW' := Lib.hid hvW; clear hvW
  have hiW' := Lib.hid hiW; clear hiW
  have hsame' := Lib.hid hsame; clear hsame
  have hl' := Lib.hid hl; clear hl
  have hv' := Lib.hid hv; clear hv
  have hP' := Lib.hid hP; clear hP
  have hY' := Lib.hid hY; clear hY
  have hJ' := Lib.hid hJ; clear hJ
  have hJ0' := Lib.hid hJ0; clear hJ0
  have hwf' := Lib.hid hwf; clear hwf
  have hwi' := Lib.hid hwi; clear hwi
  have hW' := Lib.hid hW; clear hW hi
  gi_wp2
  gi_loopw [9] (fun s9 wr => ∃ (k : Nat) (pre : List Dev) (i : Int), s9 = .int .i64 k ∧ k ≤ N ∧ Hid (pre.length = k) ∧ Hid (chainD l N i0 = pre ++ chainD l (N - k) i) ∧ Hid (Wf i) ∧ Hid (Blk wr bi 3 #[.int .i64 i]) ∧ Hid (∀ j, (j < n₀ ∨ j = bv ∨ j = b1) → wr.heap[j]? = w.heap[j]?) ∧ w.heap.size ≤ wr.heap.size ∧ Hid (J pre wr)) (fun s9 _ => N - (intOf s9).toNat)
  case atStart => exact ⟨0, [], i0, rfl, by omega, rfl, rfl, hwi', hiW', hsame', hsz, hJ0'⟩
  case round =>
    clear hiW' hsame' hsz hJ0' hvW' c0 hwi'
    obtain ⟨k, pre, i, rfl, hk, hpl, hch, hwi, hib, hsm, hszr, hJr⟩ := hrel
    by_cases hkN : k < N
    · have hvr : Hid (Blk wr bv 70 #[.slice p N c, .map (some b1), .map (some b2)]) := (hsm.out bv (.inr (.inl rfl))).trans hv'.out
      have v0 := hvr.out.cell 0
      have v1 := hvr.out.cell 1
      have v2 := hvr.out.cell 2
      have ci := hib.out.cell 0
      simp only [List.getElem?_toArray, List.getElem?_cons_zero, List.getElem?_cons_succ] at v0 v1 v2 ci
      have hF := vfind_any l p N c b1 b2 i wr (hl'.out wr (fun j hj => hsm.out j (.inl hj)) (by omega)) (by have := hP'.out.heap (hsm.out b1 (.inr (.inr rfl))); rwa [hN1000.out]) hwi.out
      have ik : (k : Int) < (N : Int) := by omega
      cases hx : lastD l i with
      | none =>
        have hfv : findV l i = .tuple #[zeroDev, .bool false] := by unfold findV; rw [hx]
        rw [hfv] at hF
        have hF' := Lib.hid hF; clear hF hfv
        unfold zeroDev at hF'
        gi_wp2
        refine ⟨trivial, (fun _ => by omega), (callsIn_wide.2 hF'.out).mono ?_⟩
        rintro e w2 ⟨rfl, hb2⟩
        have hbb := hb2.alloc hb2.size (.cells #[.int .i64 0, .int .i64 0, .string ⟨#[]⟩, .string ⟨#[]⟩, .string ⟨#[]⟩, .string ⟨#[]⟩, .string ⟨#[]⟩, .int .i64 0, .int .i64 0, .slice none 0 0] 40)
        have hJ2 : Hid (J pre (w2.alloc (.cells #[.int .i64 0, .int .i64 0, .string ⟨#[]⟩, .string ⟨#[]⟩, .string ⟨#[]⟩, .string ⟨#[]⟩, .string ⟨#[]⟩, .int .i64 0, .int .i64 0, .slice none 0 0] 40))) := hJ'.out pre wr _ none hJr.out ⟨hbb.os, hbb.tape, hbb.output, hbb.size, fun j hj _ => hbb.block j hj⟩ (fun r e => by cases e)
        have hfin : Hid (pre = chainD l N i0) := by
          show pre = _
          rw [hch.out, chainD_none hx, List.append_nil]
        clear hb2 hF' hbb
        gi_wp2
        refine ⟨fun _ h => (by cases h), ?_⟩
        gi_wp2
        refine bodyPost_ret (results_none rfl _ _ _) rfl ?_
        exact ⟨⟨_, rfl⟩, pre, hfin.out, hJ2.out⟩
      | some d =>
        have hfv : findV l i = .tuple #[devV d, .bool true] := by unfold findV; rw [hx]
        rw [hfv] at hF
        have hF' := Lib.hid hF; clear hF hfv
        gi_wp2
        refine ⟨trivial, (fun _ => by omega), (callsIn_wide.2 hF'.out).mono ?_⟩
        rintro e w2 ⟨rfl, hb2⟩
        have hch2 : Hid (chainD l N i0 = (pre ++ [d]) ++ chainD l (N - (k + 1)) d.par) := by
          show chainD l N i0 = _
          have : N - k = (N - (k + 1)) + 1 := by omega
          rw [hch.out, this, chainD_some hx]
          simp
        have hmem : Hid (d ∈ l) := by
          unfold lastD at hx
          cases hq : lastIx l l.length i with
          | none => rw [hq] at hx; cases hx
          | some j => rw [hq] at hx; exact List.mem_of_getElem? hx
        have hdm : Hid (Wf d.par) := hwf'.out d hmem.out
        obtain ⟨x0, x1, x2, x3, x4, x5, x6, x7, x8, xa, xn, xc, xt⟩ := d
        unfold devV
        simp only
        have hgr : wr.grownBy (w2.alloc (.cells #[.int .i64 x0, .int .i64 x1, .string x2, .string x3, .string x4, .string x5, .string x6, .int .i64 x7, .int .i64 x8, .slice xa xn xc] 40)) none := by
          have hbb := hb2.alloc hb2.size (.cells #[.int .i64 x0, .int .i64 x1, .string x2, .string x3, .string x4, .string x5, .string x6, .int .i64 x7, .int .i64 x8, .slice xa xn xc] 40)
          exact ⟨hbb.os, hbb.tape, hbb.output, hbb.size, fun j hj _ => hbb.block j hj⟩
        obtain ⟨fn, tmps, assign, body, hy, hR⟩ := hY'.out pre ⟨x0, x1, x2, x3, x4, x5, x6, x7, x8, xa, xn, xc, xt⟩ wr _ hmem.out hJr.out hgr (by rw [hpl.out]; exact hkN)
        unfold devV at hy
        dsimp only at hy
        have hR' := Lib.hid hR; clear hR
        have hC2 : Hid (Blk (w2.alloc (.cells #[.int .i64 x0, .int .i64 x1, .string x2, .string x3, .string x4, .string x5, .string x6, .int .i64 x7, .int .i64 x8, .slice xa xn xc] 40)) w2.heap.size 40 #[.int .i64 x0, .int .i64 x1, .string x2, .string x3, .string x4, .string x5, .string x6, .int .i64 x7, .int .i64 x8, .slice xa xn xc]) := Blk.new _ _ _
        have hgr' := Lib.hid hgr
        have hw2 := hb2.size
        clear hb2 hF' hgr
        gi_wp2
        refine ⟨(fun _ => by omega), hR'.out.mono ?_⟩
        rintro e W3 ⟨rfl, hJ3, hk3⟩
        have hsz3 := hgr'.out.size
        have hd3 : Hid (Blk W3 w2.heap.size 40 #[.int .i64 x0, .int .i64 x1, .string x2, .string x3, .string x4, .string x5, .string x6, .int .i64 x7, .int .i64 x8, .slice xa xn xc]) := (hk3 _ hC2.out.lt (.inr hw2)).trans hC2.out
        have hib3 : Hid (Blk W3 bi 3 #[.int .i64 i]) := (hk3 bi (by have := hib.out.lt; omega) (.inl (.inr (.inr (.inr rfl))))).trans ((hgr'.out.block bi hib.out.lt (fun e => by cases e)).trans hib.out)
        have hlt : ∀ j, (j < n₀ ∨ j = bv ∨ j = b1) → j < wr.heap.size := fun j hj => by
          rcases hj with h | h | h
          · omega
          · rw [h]; exact hvr.out.lt
          · rw [h]; have := hP'.out.lt; omega
        have hsm3 : Hid (∀ j, (j < n₀ ∨ j = bv ∨ j = b1) → W3.heap[j]? = w.heap[j]?) := fun j hj =>
          (hk3 j (by have := hlt j hj; omega) (.inl (by rcases hj with h | h | h; exact .inl h; exact .inr (.inl h); exact .inr (.inr (.inl h))))).trans ((hgr'.out.block j (hlt j hj) (fun e => by cases e)).trans (hsm.out j hj))
        have hszw : w.heap.size ≤ W3.heap.size := by
          have := hd3.out.lt
          omega
        have d1 := hd3.out.cell 1
        have cb := hib3.out.cell 0
        have fb := hib3.out.frozen 0
        simp only [List.getElem?_toArray, List.getElem?_cons_zero, List.getElem?_cons_succ] at d1 cb
        have hib4 : Hid (Blk (W3.setCell ⟨bi, 0, none⟩ (.int .i64 x1)) bi 3 #[.int .i64 x1]) := hib3.out.store 0 _
        have hJ4 : Hid (J (pre ++ [⟨x0, x1, x2, x3, x4, x5, x6, x7, x8, xa, xn, xc, xt⟩]) (W3.setCell ⟨bi, 0, none⟩ (.int .i64 x1))) := hJ'.out _ W3 _ (some bi) hJ3 (grownBy_setCell' W3 bi _) (fun r e => (Option.some.inj e).symm)
        have hsm4 : Hid (∀ j, (j < n₀ ∨ j = bv ∨ j = b1) → (W3.setCell ⟨bi, 0, none⟩ (.int .i64 x1)).heap[j]? = w.heap[j]?) := fun j hj => (Below.heap_setCell _ _ _ _ (by rcases hj with h | h | h <;> (simp only; omega))).trans (hsm3.out j hj)
        have hsz4 : w.heap.size ≤ (W3.setCell ⟨bi, 0, none⟩ (.int .i64 x1)).heap.size := by simpa using hszw
        have hpl2 : Hid ((pre ++ [(⟨x0, x1, x2, x3, x4, x5, x6, x7, x8, xa, xn, xc, xt⟩ : Dev)]).length = k + 1) := by
          show (pre ++ [_]).length = _
          rw [List.length_append, hpl.out]; rfl
        clear hJ3 hk3 hd3 hib3 hsm3 hR' hy hgr' hC2
        gi_wp2
        go_roundw
        case rel => exact ⟨k + 1, _, x1, by go_num, by omega, hpl2, hch2, hdm, hib4, hsm4, hsz4, hJ4⟩
        case measure => simp [intOf]; omega
    · obtain rfl : k = N := by omega
      have hfin : Hid (pre = chainD l k i0) := by
        show pre = _
        rw [hch.out, Nat.sub_self]
        exact (List.append_nil _).symm
      gi_wp2
      go_end0
      exact ⟨⟨_, rfl⟩, pre, hfin.out, hJr.out⟩

end Go.Proofs.YtinjeijjfkkhbaaGreatDoor

namespace Go.Proofs.YtinjeijjfkkhbaaGreatDoor
open Go Go.RowKit Go.Maps

set_option maxRecDepth 100000 in
theorem vup_any (p : Option Addr) (n c b1 b2 : Nat) (i : Int) (w : World) :
    Calls Tryz.prog 29 #[viewV p n c b1 b2, .int .i64 i] w fun e w' => e = .returned (.func (.func 56) #[] #[.pointer (some ⟨w.heap.size, 0, none⟩), .pointer (some ⟨w.heap.size + 1, 0, none⟩)]) ∧
      w' = (w.alloc (.cells #[.slice p n c, .map (some b1), .map (some b2)] 70)).alloc (.cells #[.int .i64 i] 3) := by
  unfold viewV
  go_enter Tryz.func29, Tryz.ntmps29
  go_wp2_with fail
  go_ret
  exact ⟨by simp, rfl⟩

end Go.Proofs.YtinjeijjfkkhbaaGreatDoor
