/-
  WHAT HOLDS BETWEEN TWO ROUNDS of tree.Ancestors.
  ONE ROUND of tree.Ancestors: the copy is appended to the row in the box.
-/
import Derived.Test.YtinjeijjfkkhbaaGreatDoorTreeVUp
import Derived.Maps.AppendAt
import Derived.RangeFuncBox
import Derived.AtR
namespace Go.Proofs.YtinjeijjfkkhbaaGreatDoor
open Go Go.RowKit Go.Maps

theorem cells_of_cell {W : World} {a : Addr} {v : Value} (h : W.cell? a = some v) : ∃ cs t fr, W.heap[a.block]? = some (.cells cs t fr) := by
  unfold World.cell? at h
  cases hb : W.heap[a.block]? with
  | none => rw [hb] at h; simp at h
  | some o =>
    rw [hb] at h
    cases o with
    | cells cs t fr => exact ⟨cs, t, fr, rfl⟩
    | _ => simp at h
theorem dev_ten (l : List Dev) : ∀ x ∈ l.map devC, x.length = 10 := fun x hx => by
  obtain ⟨y, _, rfl⟩ := List.mem_map.1 hx
  rfl
/-- The same devices, but for where their attributes lie. -/
def Sames (xs l : List Dev) : Prop := l.length = xs.length ∧ ∀ (k : Nat) (d : Dev), xs[k]? = some d → ∃ d', l[k]? = some d' ∧ sameD d d'
theorem Sames.nil : Sames [] [] := ⟨rfl, fun _ _ h => by cases h⟩
theorem Sames.snoc {xs l : List Dev} {d d' : Dev} (h : Sames xs l) (hd : sameD d d') : Sames (xs ++ [d]) (l ++ [d']) := by
  obtain ⟨h1, h2⟩ := h
  refine ⟨by rw [List.length_append, List.length_append, h1]; rfl, fun k e hk => ?_⟩
  by_cases hlt : k < xs.length
  · rw [List.getElem?_append_left hlt] at hk
    obtain ⟨e', h3, h4⟩ := h2 k e hk
    exact ⟨e', by rw [List.getElem?_append_left (by omega)]; exact h3, h4⟩
  · rw [List.getElem?_append_right (by omega)] at hk
    have h0 : k - xs.length = 0 := by
      have := (List.getElem?_eq_some_iff.1 hk).1
      simp at this
      omega
    rw [h0] at hk
    cases hk
    exact ⟨d', by rw [List.getElem?_append_right (by omega), h1, h0]; rfl, hd⟩
/-- Copies of devices, one behind the other, in a row of the call's own from block B on; the attributes of each lie from B on, too. -/
def Copies (B : Nat) (V : Value) (xs : List Dev) (W : World) : Prop :=
  ∃ l' : List Dev, W.ownsRow B 40 10 V l'.length (l'.map devC).flatten ∧ Sames xs l' ∧ ∀ d ∈ l', DevOk W d ∧ ∀ x, d.aa = some x → B ≤ x.block ∧ V.ownBlock ≠ some x.block
theorem DevOk.cells {W : World} {d : Dev} (h : DevOk W d) {x : Addr} (hx : d.aa = some x) : ∃ cs t fr, W.heap[x.block]? = some (.cells cs t fr) := by
  obtain ⟨h1, h2, h3⟩ := h
  rcases h1.2 with ⟨h, _⟩ | ⟨g, o, cap, h, hg, hc⟩
  · have h : Value.slice d.aa d.an d.ac = .slice none 0 0 := h
    injection h with e _ _
    rw [e] at hx; cases hx
  · have h : Value.slice d.aa d.an d.ac = _ := h
    injection h with e _ _
    rw [e] at hx
    cases hx
    cases ha : d.att with
    | nil => obtain ⟨h4, _⟩ := h3.1 ha; rw [e] at h4; cases h4
    | cons y r =>
      have := hc 0 (attC y) (by rw [ha]; rfl) 0 (.string y.1) rfl
      exact cells_of_cell this
theorem Copies.grown {B C c : Nat} {V : Value} {xs : List Dev} {W W' : World} {row : Option Nat} (h : Copies B V xs W) (hg : W.grownBy W' row) (hr : ∀ r, row = some r → r = c ∨ (C ≤ r ∧ ∃ o : Obj, W.heap[r]? = some o ∧ o.isCells = false)) (hc : c < B) : Copies B V xs W' := by
  obtain ⟨l', h1, h2, h3⟩ := h
  have ho := only_grown hg
  have hne : ∀ g, (∃ cs t fr, W.heap[g]? = some (.cells cs t fr)) → B ≤ g → row ≠ some g := fun g hcs hB e => by
    rcases hr g e with h | ⟨_, o, h, ho⟩
    · omega
    · obtain ⟨cs, t, fr, hcs⟩ := hcs
      rw [hcs] at h
      cases h
      cases ho
  refine ⟨l', own_only h1 ho fun g hgo hs => ?_, h2, fun d hd => ⟨(h3 d hd).1.same hg.size fun x hx => ?_, (h3 d hd).2⟩⟩
  · have hB := (h1.lt g hgo).1
    refine hne g ?_ hB hs
    rcases h1.2 with ⟨e, _⟩ | ⟨g', cap, cur, e, _, hcs, _⟩
    · rw [e] at hgo; cases hgo
    · rw [e] at hgo
      cases hgo
      exact ⟨_, _, _, hcs⟩
  · have hcs := (h3 d hd).1.cells hx
    have hB := ((h3 d hd).2 x hx).1
    obtain ⟨cs, t, fr, hc'⟩ := hcs
    exact hg.block x.block (Array.getElem?_eq_some_iff.1 hc').1 (fun e => hne x.block ⟨cs, t, fr, hc'⟩ hB e.symm)
theorem Copies.start (B : Nat) (W : World) : Copies B (.slice none 0 0) [] W := ⟨[], World.ownsRow_nil _ _ _ _, Sames.nil, fun d hd => by cases hd⟩
theorem Copies.at {B : Nat} {V : Value} {xs : List Dev} {W : World} (h : Copies B V xs W) (hx : xs.length ≤ 9223372036854775807) : ∃ l', DevsAt W V l' ∧ Sames xs l' ∧ ∀ d ∈ l', Neat d.att d.aa d.an d.ac := by
  obtain ⟨l', h1, h2, h3⟩ := h
  have hlen := h2.1
  exact ⟨l', ⟨RowAt.own h1 (by rw [List.length_map]) (dev_ten l') (by rw [List.length_map]; omega), fun d hd => (h3 d hd).1.1⟩, h2, fun d hd => (h3 d hd).1.2⟩
/-- What the body of the loop keeps between two rounds: V lies in the box bl, the number in the box bx. -/
def AncI (n₀ B bl bx : Nat) (w0 : World) (i0 : Int) (pre : List Dev) (W : World) : Prop :=
  (∃ V, Blk W bl 28 #[V] ∧ Copies B V (pre.filter fun d => decide (d.idx ≠ i0)) W) ∧ Blk W bx 3 #[.int .i64 i0] ∧ Below n₀ w0 W
theorem AncI.own {n₀ B bl bx c C : Nat} {w0 : World} {i0 : Int} (hc : c < B) (h1 : bl < C) (h2 : bx < C) (h3 : bl ≠ c) (h4 : bx ≠ c) (h5 : n₀ ≤ c) (h6 : n₀ ≤ C) (h7 : n₀ ≤ w0.heap.size) : OwnC c C (AncI n₀ B bl bx w0 i0) := by
  rintro pre W W' row ⟨⟨V, hV, hC⟩, hx, hb⟩ hg hr
  have ne : ∀ j, j < C → j ≠ c → some j ≠ row := fun j hj hjc e => by
    rcases hr j e.symm with h | ⟨h, _⟩
    · exact hjc h
    · omega
  exact ⟨⟨V, (hg.block bl hV.lt (ne bl h1 h3)).trans hV, hC.grown hg hr hc⟩, (hg.block bx hx.lt (ne bx h2 h4)).trans hx, hb.grown hg (Nat.le_trans h7 hb.size) (fun k e => by
    rcases hr k e with h | ⟨h, _⟩
    · omega
    · omega)⟩

end Go.Proofs.YtinjeijjfkkhbaaGreatDoor

namespace Go.Proofs.YtinjeijjfkkhbaaGreatDoor
open Go Go.RowKit Go.Maps

/-- The append of a device. -/
noncomputable def appDev (v x : Value) (w : World) : Result Value := (Builtin.append_ #[28, 28] 28 #[v, x]).run Tryz.prog w
noncomputable def appSem (v x : Value) : Sem Next := do pure (.value (← Builtin.append_ #[28, 28] 28 #[v, x]))
theorem app_run (v x : Value) (w : World) : (appSem v x).run Tryz.prog w = (appDev v x w).andThen fun v w => .ok (.value v) w := by
  unfold appSem appDev
  simp
theorem app_sem (ro : Option Nat) (ev : Operand → Value) (d : Option Tmp) (s x : Operand) (pos : String) (after : Array Edge) (guard : Option (Nat × Bool)) :
    Oper.semAt ro ev ⟨d, .call { callee := .builtin .append, args := #[s, x], argTypes := #[28, 28] }, 28, pos, after, guard⟩ = appSem (ev s) (ev x) := by
  rw [Oper.semAt_eq _ _ _ (fun c h => by cases h)]
  unfold execOp appSem
  simp [resolve, invoke, builtin]
theorem info_dev : (Tryz.prog.info? 40).map (fun i => (i.zero, i.size, i.bytes)) = some (some (.agg #[.int .i64 0, .int .i64 0, .string ⟨#[]⟩, .string ⟨#[]⟩, .string ⟨#[]⟩, .string ⟨#[]⟩, .string ⟨#[]⟩, .int .i64 0, .int .i64 0, .slice none 0 0]), 10, 136) := by kernel_rfl

theorem dev_cells (w : World) (d : Dev) : ∀ j u, (devC d)[j]? = some u → (w.alloc (.cells (devC d).toArray 40)).cell? ((⟨w.heap.size, 0, none⟩ : Addr).add j) = some u := fun j u hu => by
  rw [addr_add, Nat.zero_add, (Blk.new w 40 (devC d).toArray).cell j]
  simpa using hu
theorem dev_one (d : Dev) : ∀ u ∈ devC d, u.oneCell' = true := fun u hu => by
  simp [devC, Dev.atv] at hu
  rcases hu with rfl | rfl | rfl | rfl | rfl | rfl | rfl | rfl | rfl | rfl <;> rfl

theorem keepsFrom_cells {C n : Nat} {W W' : World} {r : Option Nat} (hs : W.heap.size ≤ W'.heap.size) (hb : ∀ j, j < W.heap.size → j ≠ n → some j ≠ r → W'.heap[j]? = W.heap[j]?)
    (hn : ∃ cs t fr, W.heap[n]? = some (.cells cs t fr)) (hr : ∀ g, r = some g → ∃ cs t fr, W.heap[g]? = some (.cells cs t fr)) : KeepsFrom C W W' := by
  refine ⟨hs, fun k o _ hk ho => ?_⟩
  have hlt := (Array.getElem?_eq_some_iff.1 hk).1
  refine (hb k hlt (fun e => ?_) (fun e => ?_)).trans hk
  · obtain ⟨cs, t, fr, h⟩ := hn
    rw [e, h] at hk
    cases hk
    cases ho
  · obtain ⟨cs, t, fr, h⟩ := hr k e.symm
    rw [h] at hk
    cases hk
    cases ho

theorem anc_round {n₀ bv b1 C : Nat} {V0 : Value} {w0 W0 W y1 : World} {i0 : Int} {pre : List Dev} {d d' : Dev} (hb1 : n₀ + 2 < b1) (hb1v : b1 < bv)
    (hV : Blk W (n₀ + 2) 28 #[V0]) (hC : Copies (bv + 2) V0 (pre.filter fun d => decide (d.idx ≠ i0)) W) (hx : Blk W (n₀ + 1) 3 #[.int .i64 i0]) (hb : Below n₀ w0 W)
    (hrow : ∀ g, V0.ownBlock = some g → bv + 2 ≤ g ∧ g < W0.heap.size) (hs0 : n₀ + 2 < W0.heap.size) (hs1 : W0.heap.size ≤ W.heap.size) (hbw : bv + 2 ≤ W.heap.size) (hlen : pre.length ≤ 1000)
    (hd1 : DevOk y1 d') (hd2 : sameD d d') (hd3 : ∀ x, d'.aa = some x → W.heap.size ≤ x.block) (hy : Below W.heap.size W y1) (hid : d.idx ≠ i0) :
    ∃ V' w', appDev V0 (.slice (some ⟨y1.heap.size, 0, none⟩) 1 1) (y1.alloc (.cells (devC d').toArray 40)) = .ok V' w' ∧ (∃ g n cap, V' = .slice (some ⟨g, 0, none⟩) n cap) ∧
      w'.cell? ⟨n₀ + 1 + 1, 0, none⟩ = some V0 ∧ w'.frozen? ⟨n₀ + 1 + 1, 0, none⟩ = false ∧ (y1.alloc (.cells (devC d').toArray 40)).cell? ⟨n₀ + 1 + 1, 0, none⟩ = some V0 ∧ y1.cell? ⟨n₀ + 1 + 1, 0, none⟩ = some V0 ∧
      Hid (KeepsFrom C W (w'.setCell ⟨n₀ + 2, 0, none⟩ V') ∧ KeepX (upX n₀ bv b1 (bv + 1)) W0 W (w'.setCell ⟨n₀ + 2, 0, none⟩ V') ∧ AncI n₀ (bv + 2) (n₀ + 2) (n₀ + 1) w0 i0 (pre ++ [d]) (w'.setCell ⟨n₀ + 2, 0, none⟩ V')) := by
  obtain ⟨l', h1, h2, h3⟩ := hC
  have hgy : W.grownBy y1 none := ⟨hy.os, hy.tape, hy.output, hy.size, fun k hk _ => hy.block k hk⟩
  have hg1 : W.grownBy (y1.alloc (.cells (devC d').toArray 40)) none := hgy.trans (World.grownBy_alloc _ _ _)
  have hk1 := h1.kept hg1 (by cases hV : V0.ownBlock <;> simp)
  have hll : l'.length ≤ 1000 := by
    have := List.length_filter_le (fun d : Dev => decide (d.idx ≠ i0)) pre
    have := h2.1
    omega
  obtain ⟨i, hi, hz0, hz1, hz2⟩ := info_parts info_dev
  have hsz1 : (y1.alloc (.cells (devC d').toArray 40)).heap.size = y1.heap.size + 1 := by simp
  obtain ⟨V', w', hrun, r1, r2, r3, r4⟩ := run_append_own_at (P := Tryz.prog) _ (bv + 2) 28 28 40 i _ 10 136 Tryz.underlying28 hi hz0 hz1 hz2 rfl (by decide) V0 l'.length _ hk1 ⟨y1.heap.size, 0, none⟩ 1 1 (devC d') rfl (dev_cells y1 d') (dev_one d') (by simp only [maxLen]; omega) (by omega) (by have := hy.size; omega)
  have hys := hy.size
  have hw's := r2.size
  have hVl := hV.lt
  have hne2 : some (n₀ + 2) ≠ V0.ownBlock := fun e => by have := (hrow _ e.symm).1; omega
  have hne2' : some (n₀ + 2) ≠ V'.ownBlock := fun e => by
    rcases r4 with h | h
    · exact hne2 (e.trans h)
    · rw [h, hsz1] at e; have e := Option.some.inj e; omega
  have bV1 : Blk y1 (n₀ + 2) 28 #[V0] := hV.below hy hVl
  have bV2 := bV1.alloc (.cells (devC d').toArray 40)
  have bV3 : Blk w' (n₀ + 2) 28 #[V0] := (r2.block _ bV2.lt hne2).trans bV2
  have bV4 : Blk (w'.setCell ⟨n₀ + 2, 0, none⟩ V') (n₀ + 2) 28 #[V'] := bV3.store 0 V'
  -- what has not turned
  have hsame : ∀ j, j < W.heap.size → j ≠ n₀ + 2 → some j ≠ V0.ownBlock → (w'.setCell ⟨n₀ + 2, 0, none⟩ V').heap[j]? = W.heap[j]? := fun j hj h hne =>
    (Below.heap_setCell w' ⟨n₀ + 2, 0, none⟩ V' j h).trans ((r2.block j (by omega) hne).trans (hg1.block j hj (fun e => by cases e)))
  have hsame1 : ∀ j, j < y1.heap.size → j ≠ n₀ + 2 → some j ≠ V0.ownBlock → (w'.setCell ⟨n₀ + 2, 0, none⟩ V').heap[j]? = y1.heap[j]? := fun j hj h hne =>
    (Below.heap_setCell w' ⟨n₀ + 2, 0, none⟩ V' j h).trans ((r2.block j (by omega) hne).trans (Below.heap_alloc y1 _ j hj))
  have hsz4 : (w'.setCell ⟨n₀ + 2, 0, none⟩ V').heap.size = w'.heap.size := by simp
  refine ⟨V', w', hrun, ?_, (bV3.cell 0).trans rfl, bV3.frozen 0, (bV2.cell 0).trans rfl, (bV1.cell 0).trans rfl, ⟨?_, ?_, ⟨V', bV4, l' ++ [d'], ?_, ?_, ?_⟩, ?_, ?_⟩⟩
  · rcases r1.2 with ⟨_, h⟩ | ⟨g, cap, cur, hv, _⟩
    · omega
    · exact ⟨g, _, cap, hv⟩
  · refine keepsFrom_cells (n := n₀ + 2) (r := V0.ownBlock) (by omega) hsame ⟨_, _, _, hV⟩ (fun g hg => ?_)
    rcases h1.2 with ⟨e, _⟩ | ⟨g', cap, cur, e, _, hcs, _⟩
    · rw [e] at hg; cases hg
    · rw [e] at hg
      cases hg
      exact ⟨_, _, _, hcs⟩
  · rintro j hj hX
    refine hsame j hj (fun e => ?_) (fun e => ?_)
    · rcases hX with (h | h | h | h) | h <;> omega
    · have := hrow j e.symm
      rcases hX with (h | h | h | h) | h <;> omega
  · have ho := r1.kept (grownBy_setCell' w' (n₀ + 2) V') (.inr (fun e => hne2' e.symm))
    rw [List.length_append, List.map_append, List.flatten_append]
    simpa using ho
  · rw [List.filter_append]
    have : [d].filter (fun d => decide (d.idx ≠ i0)) = [d] := by simp [hid]
    rw [this]
    exact h2.snoc hd2
  · intro e he
    rcases List.mem_append.1 he with he | he
    · obtain ⟨g1, g2⟩ := h3 e he
      refine ⟨g1.same (by omega) fun x hx => ?_, fun x hx => ⟨(g2 x hx).1, ?_⟩⟩
      · obtain ⟨cs, t, fr, hc⟩ := g1.cells hx
        have := (g2 x hx).1
        exact hsame _ (Array.getElem?_eq_some_iff.1 hc).1 (by omega) (fun e => (g2 x hx).2 e.symm)
      · obtain ⟨cs, t, fr, hc⟩ := g1.cells hx
        have hlt := (Array.getElem?_eq_some_iff.1 hc).1
        rcases r4 with h | h
        · rw [h]; exact (g2 x hx).2
        · rw [h, hsz1]; intro e; have e := Option.some.inj e; omega
    · rw [List.mem_singleton] at he
      subst he
      have hne : ∀ x, e.aa = some x → V0.ownBlock ≠ some x.block := fun x hx e' => by
        have := hd3 x hx
        have := (hrow _ e').2
        omega
      have hlt : ∀ x, e.aa = some x → x.block < y1.heap.size := fun x hx => by
        obtain ⟨cs, t, fr, hc⟩ := hd1.cells hx
        exact (Array.getElem?_eq_some_iff.1 hc).1
      refine ⟨hd1.same (by omega) fun x hx => hsame1 _ (hlt x hx) (by have := hd3 x hx; omega) (fun e' => hne x hx e'.symm), fun x hx => ⟨by have := hd3 x hx; omega, ?_⟩⟩
      rcases r4 with h | h
      · rw [h]; exact hne x hx
      · rw [h, hsz1]; intro e'; have e' := Option.some.inj e'; have := hlt x hx; omega
  · exact (hsame _ hx.lt (by omega) (fun e => by have := (hrow _ e.symm).1; omega)).trans hx
  · have hs := hb.size
    have q1 : Below n₀ w0 y1 := hb.trans (hy.mono (by omega))
    have q2 : Below n₀ w0 (y1.alloc (.cells (devC d').toArray 40)) := q1.alloc (by omega) _
    have q3 : Below n₀ w0 w' := q2.grown r2 (by omega) (fun k hk => by have := (hrow k hk).1; omega)
    exact q3.setCell (p := ⟨n₀ + 2, 0, none⟩) (by simp) V'

end Go.Proofs.YtinjeijjfkkhbaaGreatDoor
