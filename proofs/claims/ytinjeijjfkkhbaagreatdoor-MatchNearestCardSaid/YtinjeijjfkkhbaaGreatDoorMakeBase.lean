/-
  WHAT THE MAKERS OF THE MATCH CHAPTER WANT: a new tape; One over a new list.
-/
import Derived.Test.YtinjeijjfkkhbaaGreatDoorTape
import Derived.Test.YtinjeijjfkkhbaaGreatDoorMatchHolds
namespace Go.Proofs.YtinjeijjfkkhbaaGreatDoor
open Go.RowKit

theorem tape_new (a : Option Addr) (n c : Nat) (w : World) (h : 0 < n → ∃ x : Addr, a = some x ∧ ∀ i, i < n → ∃ z : Int, w.cell? (x.add i) = some (.int .i64 z)) :
    Tape (w.alloc (.cells #[.slice a n c, .int .i64 0] 27)) w.heap.size w.heap.size 0 := by
  refine ⟨Nat.le_refl _, a, n, c, Blk.new _ _ _, fun hn => ?_⟩
  obtain ⟨x, e, hz⟩ := h hn
  have hlt : x.block < w.heap.size := by
    obtain ⟨z, hz⟩ := hz 0 hn
    have := World.block_lt_of_cell? w _ hz
    rwa [add_block] at this
  refine ⟨x, e, hlt, fun i hi => ?_⟩
  obtain ⟨z, hz⟩ := hz i hi
  exact ⟨z, (World.cell?_of_block (by rw [add_block]; exact Below.heap_alloc w _ _ hlt)).trans hz⟩
theorem one_new (B g k n c : Nat) (L : List ByteArray) (W : World) (hT : Tape W B g k) (hk : k ≤ 1000000) (hlen : L.length = n) (hn : 1 ≤ n) (hn2 : n ≤ 1000) :
    Calls Tryz.prog 20 #[.pointer (some ⟨g, 0, none⟩), .slice (some ⟨W.heap.size, 0, none⟩) n c] (W.alloc (.cells (L.map Value.string).toArray 9)) fun e w' => (∃ s, s ∈ L ∧ e = .returned (.string s)) ∧ Tape w' B g (k + 1) ∧ Only (fun j => j = g) W w' := by
  have hB : Blk (W.alloc (.cells (L.map Value.string).toArray 9)) W.heap.size 9 (L.map Value.string).toArray := Blk.new _ _ _
  have hlt := hT.lt.2
  refine (one_tape B g k W.heap.size n c L _ (hT.below ((Below.refl _ _).alloc (Nat.le_refl _) _)) hk hn (by omega) (by omega) (by simp) hlen (fun i s hs => ?_)).mono ?_
  · refine (hB.cell i).trans ?_
    simp [hs]
  rintro e v1 ⟨hs, hT1, hO⟩
  exact ⟨hs, hT1, ((Only.refl (fun j => j = g) W).alloc _).trans hO⟩
/-- A term written into the result's box. -/
theorem term_out {B g q rb : Nat} {w W : World} {cs : Array Value} (hR : Blk W rb 46 cs) (hT : Tape W B g q) (hO : Only (fun j => j = g) w W) (hrb : w.heap.size ≤ rb) (hg : g < w.heap.size) (a b c d : Value) (hcs : cs.size = 4 := by rfl) :
    Blk ((((W.setCell ⟨rb, 0, none⟩ a).setCell ⟨rb, 1, none⟩ b).setCell ⟨rb, 2, none⟩ c).setCell ⟨rb, 3, none⟩ d) rb 46 #[a, b, c, d] ∧
    Tape ((((W.setCell ⟨rb, 0, none⟩ a).setCell ⟨rb, 1, none⟩ b).setCell ⟨rb, 2, none⟩ c).setCell ⟨rb, 3, none⟩ d) B g q ∧
    Only (fun j => j = g) w ((((W.setCell ⟨rb, 0, none⟩ a).setCell ⟨rb, 1, none⟩ b).setCell ⟨rb, 2, none⟩ c).setCell ⟨rb, 3, none⟩ d) := by
  have hl := hT.lt
  have hlw := hR.lt
  have hOw : Only (fun j => j = rb) W ((((W.setCell ⟨rb, 0, none⟩ a).setCell ⟨rb, 1, none⟩ b).setCell ⟨rb, 2, none⟩ c).setCell ⟨rb, 3, none⟩ d) :=
    ((((Only.refl (fun j => j = rb) W).setCell (p := ⟨rb, 0, none⟩) (.inl rfl) a).setCell (p := ⟨rb, 1, none⟩) (.inl rfl) b).setCell (p := ⟨rb, 2, none⟩) (.inl rfl) c).setCell (p := ⟨rb, 3, none⟩) (.inl rfl) d
  refine ⟨?_, hT.only hOw (by omega) (fun j e => by omega), (((hO.setCell (p := ⟨rb, 0, none⟩) (.inr hrb) a).setCell (p := ⟨rb, 1, none⟩) (.inr hrb) b).setCell (p := ⟨rb, 2, none⟩) (.inr hrb) c).setCell (p := ⟨rb, 3, none⟩) (.inr hrb) d⟩
  obtain ⟨l⟩ := cs
  match l, hcs with
  | [c0, c1, c2, c3], _ => exact (((hR.store 0 a).store 1 b).store 2 c).store 3 d
/-- A small text of a list of texts. -/
def sml (L : List ByteArray) : Bool := L.all fun s => decide (s.size ≤ 100)
theorem sml_mem {L : List ByteArray} (h : sml L = true) {s : ByteArray} (hs : s ∈ L) : s.size ≤ 100 := by
  have := List.all_eq_true.1 h s hs
  simpa using this

end Go.Proofs.YtinjeijjfkkhbaaGreatDoor
