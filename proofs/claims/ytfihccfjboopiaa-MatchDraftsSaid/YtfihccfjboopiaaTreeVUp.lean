/-
  THE ITERATOR of tree's (view).up: a device and its ancestors.
  THE WALK of (view).up: the iterator's maker.
-/
import Derived.Test.YtfihccfjboopiaaTreeVFind
import Derived.Test.YtfihccfjboopiaaRangeCell
import Derived.Shelf.Abstract
import Derived.Shelf.RegionOpen
namespace Go.Proofs.Ytfihccfjboopiaa
open Go Go.RowKit Go.Maps Go.Shelf
attribute [local go_sem] Oper.semAt_some

/-- A device and its ancestors, at most so many. -/
def chainD (l : List Dev) : Nat → Int → List Dev
  | 0, _ => []
  | f + 1, i => match lastD l i with
    | some d => d :: chainD l f d.par
    | none => []
theorem chainD_some {l : List Dev} {i : Int} {d : Dev} (h : lastD l i = some d) (f : Nat) : chainD l (f + 1) i = d :: chainD l f d.par := by rw [chainD, h]
theorem chainD_none {l : List Dev} {i : Int} (h : lastD l i = none) : ∀ f, chainD l f i = []
  | 0 => rfl
  | f + 1 => by rw [chainD, h]

def upX (n₀ bv b1 bi j : Nat) : Prop := j < n₀ ∨ j = bv ∨ j = b1 ∨ j = bi

set_option maxRecDepth 100000 in
set_option maxHeartbeats 2000000 in
theorem up_seq (n : Nat) (hn : 3 ≤ n) (l : List Dev) (p : Option Addr) (N c b1 b2 bv bi n₀ : Nat) (i0 : Int) (w : World) (h0 : n₀ ≤ w.heap.size)
    (hl : ∀ W, (∀ j, j < n₀ → W.heap[j]? = w.heap[j]?) → n₀ ≤ W.heap.size → DevsAt W (.slice p N c) l) (hN1000 : Hid (l.length = N)) (hNb : N ≤ 1000000000) (hwf : ∀ d ∈ l, Wf d.par)
    (hv : Blk w bv 139 #[.slice p N c, .map (some b1), .map (some b2)]) (hi : Blk w bi 3 #[.int .i64 i0]) (hwi : Wf i0) (hP : Places w b1 l N) (hvi : bv ≠ bi) (h1i : b1 ≠ bi) (h0i : n₀ ≤ bi) :
    SeqC Fence.wide n Try.prog 89 #[.pointer (some ⟨bv, 0, none⟩), .pointer (some ⟨bi, 0, none⟩)] (fun d => #[devV d]) (fun d => d ∈ l) (upX n₀ bv b1 bi) (fun xs => xs = chainD l N i0) N bi w := by
  intro lp J W hW hJ hY hJ0
  have hvW : Blk W bv 139 _ := hv.below hW hv.lt
  have hiW : Blk W bi 3 _ := hi.below hW hi.lt
  have hsame : ∀ j, (j < n₀ ∨ j = bv ∨ j = b1) → W.heap[j]? = w.heap[j]? := fun j hj => hW.block j (by
    rcases hj with h | h | h
    · omega
    · rw [h]; exact hv.lt
    · rw [h]; exact hP.lt)
  have hsz := hW.size
  refine callsIn_of_wp Try.func89 rfl trivial ?_ rfl
  simp only [Try.ntmps89, List.size_toArray, List.length_cons, List.length_nil, Nat.reduceAdd, Nat.reduceSub, Array.replicate_succ, Array.replicate_zero, List.push_toArray, List.append_toArray, List.nil_append, List.cons_append]
  have c0 := hvW.cell 0
  simp only [List.getElem?_toArray, List.getElem?_cons_zero] at c0
  have hvW' := Lib.hid hvW; clear hvW
  have hiW' := Lib.hid hiW; clear hiW
  have hsame' := Lib.hid hsame; clear hsame
  have hl' := Lib.hid hl; clear hl
  have hv' := Lib.hid hv; clear hv
  have hP' := Lib.hid hP; clear hP
  have hY' := Lib.hid hY; clear hY
  have hJ' := Lib.hid hJ; clear hJ
  have hJ0' := Lib.hid hJ0; clear hJ0
  have hwf' := Lib.hid hwf; clear hwf
  have hwi' := Lib.hid hwi; clear hwi
  have hW' := Lib.hid hW; clear hW hi
  gi_wp2
  gi_loopw [9] (fun s9 wr => ∃ (k : Nat) (pre : List Dev) (i : Int), s9 = .int .i64 k ∧ k ≤ N ∧ Hid (pre.length = k) ∧ Hid (chainD l N i0 = pre ++ chainD l (N - k) i) ∧ Hid (Wf i) ∧ Hid (Blk wr bi 3 #[.int .i64 i]) ∧ Hid (∀ j, (j < n₀ ∨ j = bv ∨ j = b1) → wr.heap[j]? = w.heap[j]?) ∧ w.heap.size ≤ wr.heap.size ∧ Hid (J pre wr)) (fun s9 _ => N - (intOf s9).toNat)
  case atStart => exact ⟨0, [], i0, rfl, by omega, rfl, rfl, hwi', hiW', hsame', hsz, hJ0'⟩
  case round =>
    clear hiW' hsame' hsz hJ0' hvW' c0 hwi'
    obtain ⟨k, pre, i, rfl, hk, hpl, hch, hwi, hib, hsm, hszr, hJr⟩ := hrel
    by_cases hkN : k < N
    · have hvr : Hid (Blk wr bv 139 #[.slice p N c, .map (some b1), .map (some b2)]) := (hsm.out bv (.inr (.inl rfl))).trans hv'.out
      have v0 := hvr.out.cell 0
      have v1 := hvr.out.cell 1
      have v2 := hvr.out.cell 2
      have ci := hib.out.cell 0
      simp only [List.getElem?_toArray, List.getElem?_cons_zero, List.getElem?_cons_succ] at v0 v1 v2 ci
      have hF := vfind_any l p N c b1 b2 i wr (hl'.out wr (fun j hj => hsm.out j (.inl hj)) (by omega)) (by have := hP'.out.heap (hsm.out b1 (.inr (.inr rfl))); rwa [hN1000.out]) hwi.out
      have ik : (k : Int) < (N : Int) := by omega
      cases hx : lastD l i with
      | none =>
        have hfv : findV l i = .tuple #[zeroDev, .bool false] := by unfold findV; rw [hx]
        rw [hfv] at hF
        have hF' := Lib.hid hF; clear hF hfv
        unfold zeroDev at hF'
        gi_wp2
        refine ⟨trivial, (fun _ => by omega), (callsIn_wide.2 hF'.out).mono ?_⟩
        rintro e w2 ⟨rfl, hb2⟩
        have hbb := hb2.alloc hb2.size (.cells #[.int .i64 0, .int .i64 0, .string ⟨#[]⟩, .string ⟨#[]⟩, .string ⟨#[]⟩, .string ⟨#[]⟩, .string ⟨#[]⟩, .int .i64 0, .int .i64 0, .slice none 0 0] 42)
        have hJ2 : Hid (J pre (w2.alloc (.cells #[.int .i64 0, .int .i64 0, .string ⟨#[]⟩, .string ⟨#[]⟩, .string ⟨#[]⟩, .string ⟨#[]⟩, .string ⟨#[]⟩, .int .i64 0, .int .i64 0, .slice none 0 0] 42))) := hJ'.out pre wr _ none hJr.out ⟨hbb.os, hbb.tape, hbb.output, hbb.size, fun j hj _ => hbb.block j hj⟩ (fun r e => by cases e)
        have hfin : Hid (pre = chainD l N i0) := by
          show pre = _
          rw [hch.out, chainD_none hx, List.append_nil]
        clear hb2 hF' hbb
        gi_wp2
        refine ⟨fun _ h => (by cases h), ?_⟩
        gi_wp2
        refine bodyPost_ret (results_none rfl _ _ _) rfl ?_
        exact ⟨⟨_, rfl⟩, pre, hfin.out, hJ2.out⟩
      | some d =>
        have hfv : findV l i = .tuple #[devV d, .bool true] := by unfold findV; rw [hx]
        rw [hfv] at hF
        have hF' := Lib.hid hF; clear hF hfv
        gi_wp2
        refine ⟨trivial, (fun _ => by omega), (callsIn_wide.2 hF'.out).mono ?_⟩
        rintro e w2 ⟨rfl, hb2⟩
        have hch2 : Hid (chainD l N i0 = (pre ++ [d]) ++ chainD l (N - (k + 1)) d.par) := by
          show chainD l N i0 = _
          have : N - k = (N - (k + 1)) + 1 := by omega
          rw [hch.out, this, chainD_some hx]
          simp
        have hmem : Hid (d ∈ l) := by
          unfold lastD at hx
          cases hq : lastIx l l.length i with
          | none => rw [hq] at hx; cases hx
          | some j => rw [hq] at hx; exact List.mem_of_getElem? hx
        have hdm : Hid (Wf d.par) := hwf'.out d hmem.out
        obtain ⟨x0, x1, x2, x3, x4, x5, x6, x7, x8, xa, xn, xc, xt⟩ := d
        unfold devV
        simp only
        have hgr : wr.grownBy (w2.alloc (.cells #[.int .i64 x0, .int .i64 x1, .string x2, .string x3, .string x4, .string x5, .string x6, .int .i64 x7, .int .i64 x8, .slice xa xn xc] 42)) none := by
          have hbb := hb2.alloc hb2.size (.cells #[.int .i64 x0, .int .i64 x1, .string x2, .string x3, .string x4, .string x5, .string x6, .int .i64 x7, .int .i64 x8, .slice xa xn xc] 42)
          exact ⟨hbb.os, hbb.tape, hbb.output, hbb.size, fun j hj _ => hbb.block j hj⟩
        obtain ⟨fn, tmps, assign, body, hy, hR⟩ := hY'.out pre ⟨x0, x1, x2, x3, x4, x5, x6, x7, x8, xa, xn, xc, xt⟩ wr _ hmem.out hJr.out hgr (by rw [hpl.out]; exact hkN)
        unfold devV at hy
        dsimp only at hy
        have hR' := Lib.hid hR; clear hR
        have hC2 : Hid (Blk (w2.alloc (.cells #[.int .i64 x0, .int .i64 x1, .string x2, .string x3, .string x4, .string x5, .string x6, .int .i64 x7, .int .i64 x8, .slice xa xn xc] 42)) w2.heap.size 42 #[.int .i64 x0, .int .i64 x1, .string x2, .string x3, .string x4, .string x5, .string x6, .int .i64 x7, .int .i64 x8, .slice xa xn xc]) := Blk.new _ _ _
        have hgr' := Lib.hid hgr
        have hw2 := hb2.size
        clear hb2 hF' hgr
        gi_wp2
        refine ⟨(fun _ => by omega), hR'.out.mono ?_⟩
        rintro e W3 ⟨rfl, hJ3, hk3⟩
        have hsz3 := hgr'.out.size
        have hd3 : Hid (Blk W3 w2.heap.size 42 #[.int .i64 x0, .int .i64 x1, .string x2, .string x3, .string x4, .string x5, .string x6, .int .i64 x7, .int .i64 x8, .slice xa xn xc]) := (hk3 _ hC2.out.lt (.inr hw2)).trans hC2.out
        have hib3 : Hid (Blk W3 bi 3 #[.int .i64 i]) := (hk3 bi (by have := hib.out.lt; omega) (.inl (.inr (.inr (.inr rfl))))).trans ((hgr'.out.block bi hib.out.lt (fun e => by cases e)).trans hib.out)
        have hlt : ∀ j, (j < n₀ ∨ j = bv ∨ j = b1) → j < wr.heap.size := fun j hj => by
          rcases hj with h | h | h
          · omega
          · rw [h]; exact hvr.out.lt
          · rw [h]; have := hP'.out.lt; omega
        have hsm3 : Hid (∀ j, (j < n₀ ∨ j = bv ∨ j = b1) → W3.heap[j]? = w.heap[j]?) := fun j hj =>
          (hk3 j (by have := hlt j hj; omega) (.inl (by rcases hj with h | h | h; exact .inl h; exact .inr (.inl h); exact .inr (.inr (.inl h))))).trans ((hgr'.out.block j (hlt j hj) (fun e => by cases e)).trans (hsm.out j hj))
        have hszw : w.heap.size ≤ W3.heap.size := by
          have := hd3.out.lt
          omega
        have d1 := hd3.out.cell 1
        have cb := hib3.out.cell 0
        have fb := hib3.out.frozen 0
        simp only [List.getElem?_toArray, List.getElem?_cons_zero, List.getElem?_cons_succ] at d1 cb
        have hib4 : Hid (Blk (W3.setCell ⟨bi, 0, none⟩ (.int .i64 x1)) bi 3 #[.int .i64 x1]) := hib3.out.store 0 _
        have hJ4 : Hid (J (pre ++ [⟨x0, x1, x2, x3, x4, x5, x6, x7, x8, xa, xn, xc, xt⟩]) (W3.setCell ⟨bi, 0, none⟩ (.int .i64 x1))) := hJ'.out _ W3 _ (some bi) hJ3 (grownBy_setCell' W3 bi _) (fun r e => (Option.some.inj e).symm)
        have hsm4 : Hid (∀ j, (j < n₀ ∨ j = bv ∨ j = b1) → (W3.setCell ⟨bi, 0, none⟩ (.int .i64 x1)).heap[j]? = w.heap[j]?) := fun j hj => (Below.heap_setCell _ _ _ _ (by rcases hj with h | h | h <;> (simp only; omega))).trans (hsm3.out j hj)
        have hsz4 : w.heap.size ≤ (W3.setCell ⟨bi, 0, none⟩ (.int .i64 x1)).heap.size := by simpa using hszw
        have hpl2 : Hid ((pre ++ [(⟨x0, x1, x2, x3, x4, x5, x6, x7, x8, xa, xn, xc, xt⟩ : Dev)]).length = k + 1) := by
          show (pre ++ [_]).length = _
          rw [List.length_append, hpl.out]; rfl
        clear hJ3 hk3 hd3 hib3 hsm3 hR' hy hgr' hC2
        gi_wp2
        go_roundw
        case rel => exact ⟨k + 1, _, x1, by go_num, by omega, hpl2, hch2, hdm, hib4, hsm4, hsz4, hJ4⟩
        case measure => simp [intOf]; omega
    · obtain rfl : k = N := by omega
      have hfin : Hid (pre = chainD l k i0) := by
        show pre = _
        rw [hch.out, Nat.sub_self]
        exact (List.append_nil _).symm
      gi_wp2
      go_end0
      exact ⟨⟨_, rfl⟩, pre, hfin.out, hJr.out⟩

end Go.Proofs.Ytfihccfjboopiaa

namespace Go.Proofs.Ytfihccfjboopiaa
open Go Go.RowKit Go.Maps

set_option maxRecDepth 100000 in
theorem vup_any (p : Option Addr) (n c b1 b2 : Nat) (i : Int) (w : World) :
    Calls Try.prog 75 #[viewV p n c b1 b2, .int .i64 i] w fun e w' => e = .returned (.func (.func 89) #[] #[.pointer (some ⟨w.heap.size, 0, none⟩), .pointer (some ⟨w.heap.size + 1, 0, none⟩)]) ∧
      w' = (w.alloc (.cells #[.slice p n c, .map (some b1), .map (some b2)] 139)).alloc (.cells #[.int .i64 i] 3) := by
  unfold viewV
  go_enter Try.func75, Try.ntmps75
  go_wp2_with fail
  go_ret
  exact ⟨by simp, rfl⟩

end Go.Proofs.Ytfihccfjboopiaa
