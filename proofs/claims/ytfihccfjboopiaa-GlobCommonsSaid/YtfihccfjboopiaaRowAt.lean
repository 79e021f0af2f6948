/-
  ROWS IN MEMORY, TO BE READ: of whatever elements; attributes, devices, terms as cells.
-/
import Derived.Test.YtfihccfjboopiaaGlobMatchFn
namespace Go.Proofs.Ytfihccfjboopiaa
open Go.RowKit

/-- A slice whose elements are rows of sz cells. -/
def RowAt (w : World) (v : Value) (sz : Nat) (l : List (List Value)) : Prop :=
  l.length ≤ 9223372036854775807 ∧ ((v = .slice none 0 0 ∧ l = []) ∨ ∃ g o cap, v = .slice (some ⟨g, o, none⟩) l.length cap ∧ g < w.heap.size ∧
    ∀ (k : Nat) (xs : List Value), l[k]? = some xs → ∀ (j : Nat) (u : Value), xs[j]? = some u → w.cell? ⟨g, o + k * sz + j, none⟩ = some u)
theorem RowAt.same {w w' : World} {v : Value} {sz : Nat} {l : List (List Value)} (h : RowAt w v sz l) (hs : w.heap.size ≤ w'.heap.size) (hb : ∀ g o n c, v = .slice (some ⟨g, o, none⟩) n c → w'.heap[g]? = w.heap[g]?) : RowAt w' v sz l := by
  refine ⟨h.1, ?_⟩
  rcases h.2 with h | ⟨g, o, cap, rfl, hg, hc⟩
  · exact .inl h
  · exact .inr ⟨g, o, cap, rfl, by omega, fun k xs hx j u hu => (World.cell?_of_block (hb g o _ cap rfl)).trans (hc k xs hx j u hu)⟩
theorem RowAt.below {w w' : World} {v : Value} {sz : Nat} {l : List (List Value)} (h : RowAt w v sz l) (hb : Below w.heap.size w w') : RowAt w' v sz l := by
  refine ⟨h.1, ?_⟩
  rcases h.2 with h | ⟨g, o, cap, rfl, hg, hc⟩
  · exact .inl h
  · exact .inr ⟨g, o, cap, rfl, by have := hb.size; omega, fun k xs hx j u hu => (World.cell?_of_block (hb.block g hg)).trans (hc k xs hx j u hu)⟩

abbrev Att := ByteArray × ByteArray
def attC (x : Att) : List Value := [.string x.1, .string x.2]
/-- The value of the first attribute with a name. -/
def getS (l : List Att) (n : ByteArray) : ByteArray × Bool := match l.find? (fun x => decide (x.1 = n)) with
  | some x => (x.2, true)
  | none => (⟨#[]⟩, false)

/-- A device; aa, an, ac: its attributes' slice; att: what they are. -/
structure Dev where
  idx : Int
  par : Int
  name : ByteArray
  orig : ByteArray
  sub : ByteArray
  drv : ByteArray
  ali : ByteArray
  kind : Int
  num : Int
  aa : Option Addr
  an : Nat
  ac : Nat
  att : List Att
def Dev.atv (d : Dev) : Value := .slice d.aa d.an d.ac
def devC (d : Dev) : List Value := [.int .i64 d.idx, .int .i64 d.par, .string d.name, .string d.orig, .string d.sub, .string d.drv, .string d.ali, .int .i64 d.kind, .int .i64 d.num, d.atv]
def DevAt (w : World) (d : Dev) : Prop := RowAt w d.atv 2 (d.att.map attC)
def DevsAt (w : World) (v : Value) (l : List Dev) : Prop := RowAt w v 10 (l.map devC) ∧ ∀ d ∈ l, DevAt w d
theorem DevsAt.below {w w' : World} {v : Value} {l : List Dev} (h : DevsAt w v l) (hb : Below w.heap.size w w') : DevsAt w' v l := ⟨h.1.below hb, fun d hd => (h.2 d hd).below hb⟩

/-- A term. -/
structure Trm where
  k : Int
  n : ByteArray
  o : Int
  v : ByteArray
def trmC (t : Trm) : List Value := [.int .i64 t.k, .string t.n, .int .i64 t.o, .string t.v]
def TrmsAt (w : World) (v : Value) (l : List Trm) : Prop := RowAt w v 4 (l.map trmC)

end Go.Proofs.Ytfihccfjboopiaa
