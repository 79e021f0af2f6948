/-
  WHAT HOLDS BETWEEN TWO ROUNDS of tree.Ancestors.
-/
import Derived.Test.YtfihccfjboopiaaTreeVUp
namespace Go.Proofs.Ytfihccfjboopiaa
open Go Go.RowKit Go.Maps

theorem cells_of_cell {W : World} {a : Addr} {v : Value} (h : W.cell? a = some v) : ∃ cs t fr, W.heap[a.block]? = some (.cells cs t fr) := by
  unfold World.cell? at h
  cases hb : W.heap[a.block]? with
  | none => rw [hb] at h; simp at h
  | some o =>
    rw [hb] at h
    cases o with
    | cells cs t fr => exact ⟨cs, t, fr, rfl⟩
    | _ => simp at h
theorem dev_ten (l : List Dev) : ∀ x ∈ l.map devC, x.length = 10 := fun x hx => by
  obtain ⟨y, _, rfl⟩ := List.mem_map.1 hx
  rfl
/-- The same devices, but for where their attributes lie. -/
def Sames (xs l : List Dev) : Prop := l.length = xs.length ∧ ∀ (k : Nat) (d : Dev), xs[k]? = some d → ∃ d', l[k]? = some d' ∧ sameD d d'
theorem Sames.nil : Sames [] [] := ⟨rfl, fun _ _ h => by cases h⟩
theorem Sames.snoc {xs l : List Dev} {d d' : Dev} (h : Sames xs l) (hd : sameD d d') : Sames (xs ++ [d]) (l ++ [d']) := by
  obtain ⟨h1, h2⟩ := h
  refine ⟨by rw [List.length_append, List.length_append, h1]; rfl, fun k e hk => ?_⟩
  by_cases hlt : k < xs.length
  · rw [List.getElem?_append_left hlt] at hk
    obtain ⟨e', h3, h4⟩ := h2 k e hk
    exact ⟨e', by rw [List.getElem?_append_left (by omega)]; exact h3, h4⟩
  · rw [List.getElem?_append_right (by omega)] at hk
    have h0 : k - xs.length = 0 := by
      have := (List.getElem?_eq_some_iff.1 hk).1
      simp at this
      omega
    rw [h0] at hk
    cases hk
    exact ⟨d', by rw [List.getElem?_append_right (by omega), h1, h0]; rfl, hd⟩
/-- Copies of devices, one behind the other, in a row of the call's own from block B on; the attributes of each lie from B on, too. -/
def Copies (B : Nat) (V : Value) (xs : List Dev) (W : World) : Prop :=
  ∃ l' : List Dev, W.ownsRow B 42 10 V l'.length (l'.map devC).flatten ∧ Sames xs l' ∧ ∀ d ∈ l', DevOk W d ∧ ∀ x, d.aa = some x → B ≤ x.block ∧ V.ownBlock ≠ some x.block
theorem DevOk.cells {W : World} {d : Dev} (h : DevOk W d) {x : Addr} (hx : d.aa = some x) : ∃ cs t fr, W.heap[x.block]? = some (.cells cs t fr) := by
  obtain ⟨h1, h2, h3⟩ := h
  rcases h1.2 with ⟨h, _⟩ | ⟨g, o, cap, h, hg, hc⟩
  · have h : Value.slice d.aa d.an d.ac = .slice none 0 0 := h
    injection h with e _ _
    rw [e] at hx; cases hx
  · have h : Value.slice d.aa d.an d.ac = _ := h
    injection h with e _ _
    rw [e] at hx
    cases hx
    cases ha : d.att with
    | nil => obtain ⟨h4, _⟩ := h3 ha; rw [e] at h4; cases h4
    | cons y r =>
      have := hc 0 (attC y) (by rw [ha]; rfl) 0 (.string y.1) rfl
      exact cells_of_cell this
theorem Copies.grown {B C c : Nat} {V : Value} {xs : List Dev} {W W' : World} {row : Option Nat} (h : Copies B V xs W) (hg : W.grownBy W' row) (hr : ∀ r, row = some r → r = c ∨ (C ≤ r ∧ ∃ o : Obj, W.heap[r]? = some o ∧ o.isCells = false)) (hc : c < B) : Copies B V xs W' := by
  obtain ⟨l', h1, h2, h3⟩ := h
  have ho := only_grown hg
  have hne : ∀ g, (∃ cs t fr, W.heap[g]? = some (.cells cs t fr)) → B ≤ g → row ≠ some g := fun g hcs hB e => by
    rcases hr g e with h | ⟨_, o, h, ho⟩
    · omega
    · obtain ⟨cs, t, fr, hcs⟩ := hcs
      rw [hcs] at h
      cases h
      cases ho
  refine ⟨l', own_only h1 ho fun g hgo hs => ?_, h2, fun d hd => ⟨(h3 d hd).1.same hg.size fun x hx => ?_, (h3 d hd).2⟩⟩
  · have hB := (h1.lt g hgo).1
    refine hne g ?_ hB hs
    rcases h1.2 with ⟨e, _⟩ | ⟨g', cap, cur, e, _, hcs, _⟩
    · rw [e] at hgo; cases hgo
    · rw [e] at hgo
      cases hgo
      exact ⟨_, _, _, hcs⟩
  · have hcs := (h3 d hd).1.cells hx
    have hB := ((h3 d hd).2 x hx).1
    obtain ⟨cs, t, fr, hc'⟩ := hcs
    exact hg.block x.block (Array.getElem?_eq_some_iff.1 hc').1 (fun e => hne x.block ⟨cs, t, fr, hc'⟩ hB e.symm)
theorem Copies.start (B : Nat) (W : World) : Copies B (.slice none 0 0) [] W := ⟨[], World.ownsRow_nil _ _ _ _, Sames.nil, fun d hd => by cases hd⟩
theorem Copies.at {B : Nat} {V : Value} {xs : List Dev} {W : World} (h : Copies B V xs W) (hx : xs.length ≤ 1000000000) : ∃ l', DevsAt W V l' ∧ Sames xs l' ∧ ∀ d ∈ l', Neat d.att d.aa d.an d.ac := by
  obtain ⟨l', h1, h2, h3⟩ := h
  have hlen := h2.1
  exact ⟨l', ⟨RowAt.own h1 (by rw [List.length_map]) (dev_ten l') (by rw [List.length_map]; omega), fun d hd => (h3 d hd).1.1⟩, h2, fun d hd => (h3 d hd).1.2⟩
/-- What the body of the loop keeps between two rounds: V lies in the box bl, the number in the box bx. -/
def AncI (n₀ B bl bx : Nat) (w0 : World) (i0 : Int) (pre : List Dev) (W : World) : Prop :=
  (∃ V, Blk W bl 45 #[V] ∧ Copies B V (pre.filter fun d => decide (d.idx ≠ i0)) W) ∧ Blk W bx 3 #[.int .i64 i0] ∧ Below n₀ w0 W
theorem AncI.own {n₀ B bl bx c C : Nat} {w0 : World} {i0 : Int} (hc : c < B) (h1 : bl < C) (h2 : bx < C) (h3 : bl ≠ c) (h4 : bx ≠ c) (h5 : n₀ ≤ c) (h6 : n₀ ≤ C) (h7 : n₀ ≤ w0.heap.size) : OwnC c C (AncI n₀ B bl bx w0 i0) := by
  rintro pre W W' row ⟨⟨V, hV, hC⟩, hx, hb⟩ hg hr
  have ne : ∀ j, j < C → j ≠ c → some j ≠ row := fun j hj hjc e => by
    rcases hr j e.symm with h | ⟨h, _⟩
    · exact hjc h
    · omega
  exact ⟨⟨V, (hg.block bl hV.lt (ne bl h1 h3)).trans hV, hC.grown hg hr hc⟩, (hg.block bx hx.lt (ne bx h2 h4)).trans hx, hb.grown hg (Nat.le_trans h7 hb.size) (fun k e => by
    rcases hr k e with h | ⟨h, _⟩
    · omega
    · omega)⟩

end Go.Proofs.Ytfihccfjboopiaa
