/-
  A TABLE IN THE CALL's OWN BLOCKS, ONE FIELD OF ONE HELPER STORED.
-/
import Derived.Test.YtgjnohkcnfdmkaaDoorRefTable
import Derived.Test.YtgjnohkcnfdmkaaDoorRawOpen
namespace Go.Proofs.YtgjnohkcnfdmkaaDoor
open Go.RowKit

theorem flatH_set0 : ∀ (l : List Hp) (k : Nat) (x : Hp) (s : ByteArray), l[k]? = some x → (flatH l).set (k * 4) (.string s) = flatH (l.set k ⟨s, x.out, x.fails, x.ticks⟩)
  | [], _, _, _, h => by cases h
  | a :: l, 0, x, s, h => by
    simp at h
    subst h
    rfl
  | a :: l, k + 1, x, s, h => by
    have := flatH_set0 l k x s (by simpa using h)
    rw [show (k + 1) * 4 = k * 4 + 1 + 1 + 1 + 1 from by omega]
    simp only [flatH, List.set_cons_succ, this]
theorem flatH_set1 : ∀ (l : List Hp) (k : Nat) (x : Hp) (s : ByteArray), l[k]? = some x → (flatH l).set (k * 4 + 1) (.string s) = flatH (l.set k ⟨x.cmd, s, x.fails, x.ticks⟩)
  | [], _, _, _, h => by cases h
  | a :: l, 0, x, s, h => by
    simp at h
    subst h
    rfl
  | a :: l, k + 1, x, s, h => by
    have := flatH_set1 l k x s (by simpa using h)
    rw [show (k + 1) * 4 + 1 = k * 4 + 1 + 1 + 1 + 1 + 1 from by omega]
    simp only [flatH, List.set_cons_succ, this]
theorem flatH_set3 : ∀ (l : List Hp) (k : Nat) (x : Hp) (s : Int), l[k]? = some x → (flatH l).set (k * 4 + 3) (.int .i64 s) = flatH (l.set k ⟨x.cmd, x.out, x.fails, s⟩)
  | [], _, _, _, h => by cases h
  | a :: l, 0, x, s, h => by
    simp at h
    subst h
    rfl
  | a :: l, k + 1, x, s, h => by
    have := flatH_set3 l k x s (by simpa using h)
    rw [show (k + 1) * 4 + 3 = k * 4 + 3 + 1 + 1 + 1 + 1 from by omega]
    simp only [flatH, List.set_cons_succ, this]
theorem HOwn.set {w : World} {B g n c j : Nat} {l l' : List Hp} {u : Value} (h : HOwn w B (.slice (some ⟨g, 0, none⟩) n c) l) (hn : l.length = n) (hl : l'.length = l.length) (hf : (flatH l).set j u = flatH l') :
    HOwn (w.setCell ⟨g, j, none⟩ u) B (.slice (some ⟨g, 0, none⟩) n c) l' := by
  subst hn
  have h' : w.ownsRow B 40 4 (.slice (some ⟨g, 0, none⟩) l.length c) l.length (flatH l) := h
  have := (World.ownsRow.stored h' j u).1
  rw [hf] at this
  unfold HOwn
  rw [hl]
  exact this
theorem HOwn.only_set {w : World} {B g n c j : Nat} {l : List Hp} {u : Value} {S : Nat → Prop} {a : World} (h : HOwn w B (.slice (some ⟨g, 0, none⟩) n c) l) (ho : Only S a w) (hB : a.heap.size ≤ B) : Only S a (w.setCell ⟨g, j, none⟩ u) :=
  ho.setCell (p := ⟨g, j, none⟩) (.inr (Nat.le_trans hB (World.ownsRow.lt h g rfl).1)) u
theorem HOwn.frozen {w : World} {B g n c : Nat} {l : List Hp} (h : HOwn w B (.slice (some ⟨g, 0, none⟩) n c) l) (hn : l.length = n) (j : Nat) : w.frozen? ⟨g, j, none⟩ = false := by
  subst hn
  exact World.ownsRow.frozenAt h j

def Small (l : List Hp) : Prop := ∀ h ∈ l, h.cmd.size ≤ 100 ∧ h.out.size ≤ 100
theorem Small.set {l : List Hp} {k : Nat} {x : Hp} (h : Small l) (hx : x.cmd.size ≤ 100 ∧ x.out.size ≤ 100) : Small (l.set k x) := fun y hy => by
  rcases List.mem_or_eq_of_mem_set hy with h1 | h1
  · exact h y h1
  · subst h1; exact hx
theorem Small.app {l : List Hp} {x : Hp} (h : Small l) (hx : x ∈ l) : Small (l ++ [x]) := fun y hy => by
  rcases List.mem_append.1 hy with h1 | h1
  · exact h y h1
  · simp at h1; subst h1; exact h y hx
theorem Small.big {l : List Hp} (h : Small l) : ∀ x ∈ l, x.cmd.size ≤ 9223372036854775807 ∧ x.out.size ≤ 9223372036854775807 := fun x hx => by
  have := h x hx
  omega
def lenV : Value → Nat
  | .slice _ n _ => n
  | _ => 0

end Go.Proofs.YtgjnohkcnfdmkaaDoor
