/-
  WHAT THE LAWS OF THE HELPER CHAPTER WANT: a new tape; what an answer of a table is.
-/
import Derived.Test.YtgjnohkcnfdmkaaDoorHelpKnown
import Derived.Test.YtgjnohkcnfdmkaaDoorHelpGen
namespace Go.Proofs.YtgjnohkcnfdmkaaDoor
open Go.RowKit

theorem tape_new (a : Option Addr) (n c : Nat) (w : World) (h : 0 < n → ∃ x : Addr, a = some x ∧ ∀ i, i < n → ∃ z : Int, w.cell? (x.add i) = some (.int .i64 z)) :
    Tape (w.alloc (.cells #[.slice a n c, .int .i64 0] 26)) w.heap.size w.heap.size 0 := by
  refine ⟨Nat.le_refl _, a, n, c, Blk.new _ _ _, fun hn => ?_⟩
  obtain ⟨x, e, hz⟩ := h hn
  have hlt : x.block < w.heap.size := by
    obtain ⟨z, hz⟩ := hz 0 hn
    have := World.block_lt_of_cell? w _ hz
    rwa [add_block] at this
  refine ⟨x, e, hlt, fun i hi => ?_⟩
  obtain ⟨z, hz⟩ := hz i hi
  exact ⟨z, (World.cell?_of_block (by rw [add_block]; exact Below.heap_alloc w _ _ hlt)).trans hz⟩

theorem callS_cases (l : List Hp) (limit calls : Int) (c : ByteArray) (ht : ∀ h ∈ l, 0 ≤ h.ticks) (hl : 1 ≤ limit) :
    ∃ (s : ByteArray) (n e : Int), callS l limit calls c = (s, n, e) ∧ 0 ≤ n ∧ n ≤ limit ∧ ((16 ≤ calls ∧ s = ⟨#[]⟩ ∧ n = 0 ∧ e = 144) ∨ (calls < 16 ∧ e = 0) ∨ (calls < 16 ∧ e ≠ 0 ∧ s = ⟨#[]⟩)) := by
  unfold callS
  by_cases h16 : 16 ≤ calls
  · rw [if_pos h16]
    exact ⟨_, _, _, rfl, by omega, by omega, .inl ⟨h16, rfl, rfl, rfl⟩⟩
  · rw [if_neg h16]
    have h16' : calls < 16 := by omega
    cases hf : l.find? (hits c) with
    | none => exact ⟨_, _, _, rfl, by omega, by omega, .inr (.inr ⟨h16', by decide, rfl⟩)⟩
    | some h =>
      have h0 := ht h (List.mem_of_find?_eq_some hf)
      simp only
      by_cases hlim : limit < h.ticks
      · rw [if_pos hlim]
        exact ⟨_, _, _, rfl, by omega, by omega, .inr (.inr ⟨h16', by decide, rfl⟩)⟩
      · rw [if_neg hlim]
        cases hfa : h.fails with
        | true =>
          rw [if_pos rfl]
          exact ⟨_, _, _, rfl, by omega, by omega, .inr (.inr ⟨h16', by decide, rfl⟩)⟩
        | false =>
          rw [if_neg (by decide)]
          exact ⟨_, _, _, rfl, by omega, by omega, .inr (.inl ⟨h16', rfl⟩)⟩

/-- Elements behind the first that matches have no influence, and elements that do not match neither. -/
theorem callS_first (l : List Hp) (limit calls : Int) (c : ByteArray) : callS (l.find? (hits c)).toList limit calls c = callS l limit calls c := by
  unfold callS
  cases hf : l.find? (hits c) with
  | none => simp
  | some h =>
    have := List.find?_some hf
    simp [this]
theorem callS_none (l : List Hp) (limit : Int) (c : ByteArray) : (callS l limit 0 c).2.2 = 143 ↔ l.find? (hits c) = none := by
  unfold callS
  rw [if_neg (by decide)]
  cases hf : l.find? (hits c) with
  | none => simp
  | some h =>
    simp only
    constructor
    · intro e
      exfalso
      split at e
      · simp at e
      · split at e
        · simp at e
        · simp at e
    · intro e; cases e

theorem HOwn.shape {w : World} {B : Nat} {v : Value} {l : List Hp} (h : HOwn w B v l) : ∃ p c, v = .slice p l.length c := by
  have h' : w.ownsRow B 40 4 v l.length (flatH l) := h
  rcases h'.2 with ⟨rfl, h0⟩ | ⟨g, cap, cur, rfl, _⟩
  · exact ⟨none, 0, by rw [h0]⟩
  · exact ⟨_, _, rfl⟩
theorem HOwn.cells {w : World} {B n c : Nat} {p : Option Addr} {l : List Hp} (h : HOwn w B (.slice p n c) l) {k : Nat} {x : Hp} (hx : l[k]? = some x) :
    ∃ g, p = some ⟨g, 0, none⟩ ∧ g < w.heap.size ∧ w.cell? ⟨g, k * 4, none⟩ = some (.string x.cmd) ∧ w.cell? ⟨g, k * 4 + 1, none⟩ = some (.string x.out) ∧ w.cell? ⟨g, k * 4 + 2, none⟩ = some (.bool x.fails) ∧ w.cell? ⟨g, k * 4 + 3, none⟩ = some (.int .i64 x.ticks) := by
  have h' : w.ownsRow B 40 4 (.slice p n c) l.length (flatH l) := h
  have hk : k < l.length := (List.getElem?_eq_some_iff.1 hx).1
  obtain ⟨h0, h1, h2, h3⟩ := flatH_get l k x hx
  rcases h'.2 with ⟨_, hz⟩ | ⟨g, cap, cur, e, _, hg, _⟩
  · omega
  · cases e
    exact ⟨g, rfl, (Array.getElem?_eq_some_iff.1 hg).1, (World.ownsRow.cellAt h' _ (by omega)).trans h0, (World.ownsRow.cellAt h' _ (by omega)).trans h1, (World.ownsRow.cellAt h' _ (by omega)).trans h2, (World.ownsRow.cellAt h' _ (by omega)).trans h3⟩

theorem find_take_no {l : List Hp} {c : ByteArray} {k : Nat} {h : Hp} (hk : l[k]? = some h) (h0 : (l.take k).find? (hits c) = none) (hh : hits c h = false) : (l.take (k + 1)).find? (hits c) = none := by
  rw [List.take_add_one, hk, List.find?_append, h0]
  simp [hh]
theorem find_take_yes {l : List Hp} {c : ByteArray} {k : Nat} {h : Hp} (hk : l[k]? = some h) (h0 : (l.take k).find? (hits c) = none) (hh : hits c h = true) : (l.take (k + 1)).find? (hits c) = some h := by
  rw [List.take_add_one, hk, List.find?_append, h0]
  simp [hh]
theorem find_of_take {l : List Hp} {c : ByteArray} {k : Nat} {h : Hp} (h0 : (l.take k).find? (hits c) = some h) : l.find? (hits c) = some h := by
  have : l = l.take k ++ l.drop k := (List.take_append_drop k l).symm
  rw [this, List.find?_append, h0]
  rfl

end Go.Proofs.YtgjnohkcnfdmkaaDoor
