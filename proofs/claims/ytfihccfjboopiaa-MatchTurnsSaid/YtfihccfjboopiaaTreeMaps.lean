/-
  THE MAPS OF tree.look IN MEMORY: the places of devices by their numbers; the origins.
-/
import Derived.Test.YtfihccfjboopiaaTreeFirst
import Derived.Maps.OwnSet
import Derived.Maps.OwnOps
import Derived.Maps.StringElems
import Derived.DeepKeys4
namespace Go.Proofs.Ytfihccfjboopiaa
open Go.RowKit Go.Maps

/-- The place of the last of the first k devices that has a number. -/
def lastIx (l : List Dev) : Nat → Int → Option Nat
  | 0, _ => none
  | k + 1, i => match l[k]? with
    | some d => if d.idx = i then some k else lastIx l k i
    | none => lastIx l k i
theorem lastIx_succ {l : List Dev} {k : Nat} {d : Dev} (h : l[k]? = some d) (i : Int) : lastIx l (k + 1) i = if d.idx = i then some k else lastIx l k i := by
  rw [lastIx, h]
theorem lastIx_lt : ∀ (l : List Dev) (k : Nat) (i : Int) (j : Nat), lastIx l k i = some j → j < k ∧ ∃ d, l[j]? = some d ∧ d.idx = i
  | l, 0, i, j, h => by cases h
  | l, k + 1, i, j, h => by
    rw [lastIx] at h
    split at h
    · rename_i d hd
      split at h
      · rename_i hi
        cases h
        exact ⟨by omega, d, hd, hi⟩
      · obtain ⟨h1, h2⟩ := lastIx_lt l k i j h
        exact ⟨by omega, h2⟩
    · obtain ⟨h1, h2⟩ := lastIx_lt l k i j h
      exact ⟨by omega, h2⟩
abbrev Wf (i : Int) : Prop := (Lit.int .i64 i).wf = true
theorem key_int {i : Int} (h : Wf i) : keyOf Try.prog 3 (.int .i64 i) = some (.int .i64 i) := keyOf_int_mk Try.underlying3 h
theorem lawI : Keyed Try.prog 3 := int_keyed Try.underlying3
theorem zeroI' (w : World) : (zeroValue 3).run Try.prog w = .ok (.int .i64 0) w := by kernel_rfl
theorem zeroS (w : World) : (zeroValue 9).run Try.prog w = .ok (.string ⟨#[]⟩) w := by kernel_rfl

def Places (w : World) (mb : Nat) (l : List Dev) (k : Nat) : Prop :=
  ∃ (n : Nat) (D : DataW Unit), w.ownsMap Try.prog 3 (plainElem Try.prog 3) mb n D ∧ n ≤ k ∧
    ∀ i, Wf i → Maps.has D (.int .i64 i) = (lastIx l k i).isSome ∧ ∀ j, lastIx l k i = some j → D.atKey (.int .i64 i) (.lit (.int .i64 0)) = .lit (.int .i64 (j : Nat))
theorem Places.heap {w w' : World} {mb : Nat} {l : List Dev} {k : Nat} (h : Places w mb l k) (hw : w'.heap[mb]? = w.heap[mb]?) : Places w' mb l k := by
  obtain ⟨n, D, ⟨es, c, hb, rest⟩, hr⟩ := h
  exact ⟨n, D, ⟨es, c, hw.trans hb, rest⟩, hr⟩
theorem Places.lt {w : World} {mb : Nat} {l : List Dev} {k : Nat} (h : Places w mb l k) : mb < w.heap.size := by
  obtain ⟨n, D, ⟨es, c, hb, rest⟩, hr⟩ := h
  exact (Array.getElem?_eq_some_iff.1 hb).1
theorem Places.start (w : World) (l : List Dev) : Places (w.alloc (.map #[] 0)) w.heap.size l 0 :=
  ⟨0, .map [], World.ownsMap_made _ _ _ _, Nat.le_refl _, fun i _ => ⟨rfl, fun j h => by cases h⟩⟩
theorem Places.look {w : World} {mb : Nat} {l : List Dev} {k : Nat} (h : Places w mb l k) {i : Int} (hi : Wf i) :
    ∃ c : Int, (Instr.lookup 136 (.map (some mb)) (.int .i64 i) true).run Try.prog w = .ok (.tuple #[.int .i64 c, .bool (lastIx l k i).isSome]) w ∧ ∀ j, lastIx l k i = some j → c = (j : Nat) := by
  obtain ⟨n, D, ho, _, hh⟩ := h
  obtain ⟨v, ps, hrun, hv⟩ := ho.look_ok lawI Try.underlying136 (zeroI' w) (plainElem_int Try.underlying3 (by decide)) (key_int hi)
  obtain ⟨c, rfl, hc, _⟩ := plainElem_int_inv Try.underlying3 hv
  obtain ⟨h1, h2⟩ := hh i hi
  rw [h1] at hrun
  refine ⟨c, hrun, fun j hj => ?_⟩
  have e := congrArg Prod.fst hc
  rw [h2 j hj] at e
  cases e
  rfl
theorem Places.put {w' : World} {mb n k : Nat} {l : List Dev} {D : DataW Unit} {d : Dev} (hd : l[k]? = some d) (hD : IsMap D) (hn : n ≤ k)
    (hh : ∀ i, Wf i → Maps.has D (.int .i64 i) = (lastIx l k i).isSome ∧ ∀ j, lastIx l k i = some j → D.atKey (.int .i64 i) (.lit (.int .i64 0)) = .lit (.int .i64 (j : Nat)))
    (ho : w'.ownsMap Try.prog 3 (plainElem Try.prog 3) mb (n + 1) (D.put (.int .i64 d.idx) (.lit (.int .i64 (k : Nat))))) : Places w' mb l (k + 1) := by
  have hkl : WideAt.IsKeyLit (.int .i64 d.idx) := trivial
  refine ⟨n + 1, _, ho, by omega, fun i hi => ?_⟩
  rw [lastIx_succ hd]
  by_cases e : d.idx = i
  · subst e
    rw [if_pos rfl, has_put_same hD hkl, atKey_put_same hD hkl]
    exact ⟨rfl, fun j hj => by cases hj; rfl⟩
  · have hne : (Lit.int .i64 i) ≠ .int .i64 d.idx := fun he => e (by cases he; rfl)
    rw [if_neg e, has_put_other hne, atKey_put_other hne]
    exact hh i hi

/-- Strings of at most N bytes by numbers. -/
def Origins (w : World) (mb : Nat) (k N : Nat) : Prop :=
  ∃ (n : Nat) (D : DataW Unit), w.ownsMap Try.prog 3 (plainElem Try.prog 9) mb n D ∧ n ≤ k ∧
    ∀ i, Wf i → ∃ s : List UInt8, D.atKey (.int .i64 i) (.lit (.string [])) = .lit (.string s) ∧ s.length ≤ N
theorem Origins.heap {w w' : World} {mb k N : Nat} (h : Origins w mb k N) (hw : w'.heap[mb]? = w.heap[mb]?) : Origins w' mb k N := by
  obtain ⟨n, D, ⟨es, c, hb, rest⟩, hr⟩ := h
  exact ⟨n, D, ⟨es, c, hw.trans hb, rest⟩, hr⟩
theorem Origins.lt {w : World} {mb k N : Nat} (h : Origins w mb k N) : mb < w.heap.size := by
  obtain ⟨n, D, ⟨es, c, hb, rest⟩, hr⟩ := h
  exact (Array.getElem?_eq_some_iff.1 hb).1
theorem Origins.start (w : World) : Origins (w.alloc (.map #[] 0)) w.heap.size 0 0 :=
  ⟨0, .map [], World.ownsMap_made _ _ _ _, Nat.le_refl _, fun _ _ => ⟨[], rfl, Nat.le_refl _⟩⟩
theorem Origins.look {w : World} {mb k N : Nat} (h : Origins w mb k N) {i : Int} (hi : Wf i) :
    ∃ s : ByteArray, (Instr.lookup 137 (.map (some mb)) (.int .i64 i) false).run Try.prog w = .ok (.string s) w ∧ s.size ≤ N := by
  obtain ⟨n, D, ho, _, hh⟩ := h
  obtain ⟨v, ps, hrun, hv⟩ := ho.lookup lawI Try.underlying137 (zeroS w) (plainElem_string Try.underlying9 (by decide)) (key_int hi)
  obtain ⟨s, rfl, hs, _⟩ := plainElem_string_inv Try.underlying9 hv
  obtain ⟨t, h1, h2⟩ := hh i hi
  refine ⟨s, hrun, ?_⟩
  have e : D.atKey (.int .i64 i) (.lit (.string [])) = .lit (.string s.data.toList) := congrArg Prod.fst hs
  rw [h1] at e
  injection e with e
  injection e with e
  show s.data.size ≤ N
  rw [← Array.length_toList, ← e]
  exact h2
theorem Origins.put {w' : World} {mb n k N M : Nat} {D : DataW Unit} {x : Int} {s : ByteArray} (hD : IsMap D) (hn : n ≤ k) (hs : s.size ≤ M) (hNM : N ≤ M)
    (hh : ∀ i, Wf i → ∃ s : List UInt8, D.atKey (.int .i64 i) (.lit (.string [])) = .lit (.string s) ∧ s.length ≤ N)
    (ho : w'.ownsMap Try.prog 3 (plainElem Try.prog 9) mb (n + 1) (D.put (.int .i64 x) (.lit (.string s.data.toList)))) : Origins w' mb (k + 1) M := by
  have hkl : WideAt.IsKeyLit (.int .i64 x) := trivial
  refine ⟨n + 1, _, ho, by omega, fun i hi => ?_⟩
  by_cases e : x = i
  · subst e
    rw [atKey_put_same hD hkl]
    exact ⟨_, rfl, hs⟩
  · have hne : (Lit.int .i64 i) ≠ .int .i64 x := fun he => e (by cases he; rfl)
    rw [atKey_put_other hne]
    obtain ⟨t, h1, h2⟩ := hh i hi
    exact ⟨t, h1, by omega⟩

end Go.Proofs.Ytfihccfjboopiaa
