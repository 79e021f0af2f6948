/-
  WHAT THE LAWS OF THE LEXER CHAPTER WANT: a new tape; how many tokens a line has.
-/
import Derived.Test.YtofemhaepadggaaDoorLexLine
import Derived.Test.YtofemhaepadggaaDoorLexKnown
import Derived.Test.YtofemhaepadggaaDoorLexRefToks
import Derived.WideShapes
namespace Go.Proofs.YtofemhaepadggaaDoor
open Go.RowKit

theorem tape_new (a : Option Addr) (n c : Nat) (w : World) (h : 0 < n → ∃ x : Addr, a = some x ∧ ∀ i, i < n → ∃ z : Int, w.cell? (x.add i) = some (.int .i64 z)) :
    Tape (w.alloc (.cells #[.slice a n c, .int .i64 0] 25)) w.heap.size w.heap.size 0 := by
  refine ⟨Nat.le_refl _, a, n, c, Blk.new _ _ _, fun hn => ?_⟩
  obtain ⟨x, e, hz⟩ := h hn
  have hlt : x.block < w.heap.size := by
    obtain ⟨z, hz⟩ := hz 0 hn
    have := World.block_lt_of_cell? w _ hz
    rwa [add_block] at this
  refine ⟨x, e, hlt, fun i hi => ?_⟩
  obtain ⟨z, hz⟩ := hz i hi
  exact ⟨z, (World.cell?_of_block (by rw [add_block]; exact Below.heap_alloc w _ _ hlt)).trans hz⟩
theorem tokGo_len : ∀ (f : Nat) (b : Bool) (l : List Nat) (acc : List L.Tok), (L.tokGo f b l acc).1.length ≤ acc.length + f
  | 0, b, l, acc => Nat.zero_le _
  | f + 1, b, l, acc => by
    rw [tokGo_succ]
    split
    · simp
    · split
      · simp
      · split
        · simp
        · have := tokGo_len f true (L.tokS (l.dropWhile L.sepL)).2.1 (acc ++ [(L.tokS (l.dropWhile L.sepL)).1])
          rw [List.length_append, List.length_singleton] at this
          omega
theorem tokensS_len (l : List Nat) : (L.tokensS l).1.length ≤ 2000 := by
  unfold L.tokensS
  split
  · simp
  · split
    · simp
    · have := tokGo_len (l.length + 1) false l []
      simp at this
      omega
theorem two_cells (a b : ByteArray) (W : World) (t : TypeId) (k : Nat) (hk : k < 2) : ∃ s : ByteArray, (s = a ∨ s = b) ∧ (W.alloc (.cells #[.string a, .string b] t)).cell? ⟨W.heap.size, k, none⟩ = some (.string s) := by
  match k with
  | 0 => exact ⟨a, .inl rfl, by simp⟩
  | 1 => exact ⟨b, .inr rfl, by simp⟩
  | k + 2 => omega

end Go.Proofs.YtofemhaepadggaaDoor
