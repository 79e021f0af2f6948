/-
  WORDS ON MEMORY FOR THE WALKS OF THIS SEAT: a block that is known whole; what a call leaves as it was. No law of the program.
-/
import Derived.WalkKit
import Derived.WalkSpells
import Derived.WalkLawsBesides
import Derived.Lib.Hide
import Derived.Deep.MidRow
import Derived.Deep.QuietTactic
import Derived.BigQuiet
import Derived.Deep.RegionWith
import Derived.Deep.RegionHeld3
import Derived.StillTailTactics
import Derived.Deep.CutBlock
import Derived.Deep.LoopGhost
import Derived.Maps.RangeWalk
import Derived.Deep.DeepCutAuto
namespace Go.Proofs.Ytfihccfjboopiaa
open Go.RowKit

/-- Block g holds these cells, none of them frozen. -/
def Blk (w : World) (g : Nat) (t : TypeId) (cs : Array Value) : Prop := w.heap[g]? = some (.cells cs t (0, 0))

section
variable {w w' : World} {g : Nat} {t : TypeId} {cs : Array Value}
theorem Blk.lt (h : Blk w g t cs) : g < w.heap.size := (Array.getElem?_eq_some_iff.1 h).1
theorem Blk.cell (h : Blk w g t cs) (i : Nat) : w.cell? ⟨g, i, none⟩ = cs[i]? := cell_of_row w g i cs t (0, 0) h
theorem Blk.frozen (h : Blk w g t cs) (i : Nat) : w.frozen? ⟨g, i, none⟩ = false := frozen_of_row w g i cs t h
theorem Blk.new (w : World) (t : TypeId) (cs : Array Value) : Blk (w.alloc (.cells cs t)) w.heap.size t cs := heap_alloc_new w _
theorem Blk.new_ (w : World) (t : TypeId) (cs : Array Value) (h : g = w.heap.size) : Blk (w.alloc (.cells cs t)) g t cs := h ▸ heap_alloc_new w _
theorem Blk.alloc (h : Blk w g t cs) (o : Obj) : Blk (w.alloc o) g t cs := (Below.heap_alloc w o g h.lt).trans h
theorem Blk.drew (h : Blk w g t cs) : Blk w.drew g t cs := h
theorem Blk.drewN (h : Blk w g t cs) (n : Nat) : Blk (w.drewN n) g t cs := h
theorem Blk.store (h : Blk w g t cs) (i : Nat) (u : Value) : Blk (w.setCell ⟨g, i, none⟩ u) g t (cs.setIfInBounds i u) := by
  unfold Blk at h ⊢
  simp [World.setCell, Array.getElem?_modify, h]
theorem Blk.other (h : Blk w g t cs) {p : Addr} (hp : g ≠ p.block) (u : Value) : Blk (w.setCell p u) g t cs := (Below.heap_setCell w p u g hp).trans h
theorem Blk.row (h : Blk w g t cs) (cs' : Array Value) : Blk (w.setRow g cs') g t cs' := setRow_heap w g cs cs' t (0, 0) h
theorem Blk.rowOther (h : Blk w g t cs) {g' : Nat} (hp : g ≠ g') (cs' : Array Value) : Blk (w.setRow g' cs') g t cs := (setRow_other w g' g cs' hp).trans h
theorem Blk.below {B : Nat} (h : Blk w g t cs) (hb : Below B w w') (hg : g < B) : Blk w' g t cs := (hb.block g hg).trans h
theorem Blk.same {w' : World} (h : Blk w g t cs) (hs : w'.heap[g]? = w.heap[g]?) : Blk w' g t cs := hs.trans h
theorem Blk.ne_ {g' : Nat} {t' : TypeId} {cs' : Array Value} (h : Blk w g t cs) (h' : Blk w g' t' cs') (hne : t ≠ t') : g ≠ g' := by
  rintro rfl
  unfold Blk at h h'
  rw [h] at h'
  injection h' with h'
  injection h' with _ ht
  exact hne ht
theorem Blk.range (h : Blk w g t cs) (o : Nat) (xs : List Value) (hx : ∀ j v, xs[j]? = some v → cs[o + j]? = some v) : w.rangeAt g o xs :=
  fun j v hv => (h.cell (o + j)).trans (hx j v hv)
theorem Blk.whole (h : Blk w g t cs) : w.rangeAt g 0 cs.toList := h.range 0 _ fun j v hv => by simpa using hv
end

theorem below_row {B : Nat} {a w : World} (h : Below B a w) {g : Nat} (hg : B ≤ g) (cs : Array Value) : Below B a (w.setRow g cs) :=
  h.trans ⟨rfl, rfl, rfl, by simp, fun k hk => setRow_other w g k cs (by omega)⟩
theorem below_drawN {B : Nat} {a w : World} (h : Below B a w) (n : Nat) : Below B a (w.drewN n) := ⟨h.os, h.tape, h.output, h.size, h.block⟩

/-- WHAT A CALL LEAVES: of the blocks that were there, only those in S may have turned. -/
structure Only (S : Nat → Prop) (w w' : World) : Prop where
  os : w'.os = w.os
  tape : w'.tape = w.tape
  output : w'.output = w.output
  size : w.heap.size ≤ w'.heap.size
  block : ∀ k, k < w.heap.size → ¬ S k → w'.heap[k]? = w.heap[k]?

section
variable {S : Nat → Prop} {a w w' : World}
theorem Only.refl (S : Nat → Prop) (w : World) : Only S w w := ⟨rfl, rfl, rfl, Nat.le_refl _, fun _ _ _ => rfl⟩
theorem Only.trans {c : World} (h : Only S a w) (k : Only S w c) : Only S a c :=
  ⟨k.os.trans h.os, k.tape.trans h.tape, k.output.trans h.output, Nat.le_trans h.size k.size, fun i hi hs => (k.block i (Nat.lt_of_lt_of_le hi h.size) hs).trans (h.block i hi hs)⟩
theorem Only.mono {S' : Nat → Prop} (h : Only S a w) (hs : ∀ k, S k → S' k) : Only S' a w := ⟨h.os, h.tape, h.output, h.size, fun k hk hn => h.block k hk fun e => hn (hs k e)⟩
/-- A callee's own: what it may turn is in S or was not there at the beginning. -/
theorem Only.step {S' : Nat → Prop} {c : World} (h : Only S a w) (k : Only S' w c) (hs : ∀ i, S' i → S i ∨ a.heap.size ≤ i) : Only S a c :=
  ⟨k.os.trans h.os, k.tape.trans h.tape, k.output.trans h.output, Nat.le_trans h.size k.size, fun i hi hn => (k.block i (Nat.lt_of_lt_of_le hi h.size) fun e => by
    rcases hs i e with e | e
    · exact hn e
    · omega).trans (h.block i hi hn)⟩
theorem Only.drew (h : Only S a w) : Only S a w.drew := ⟨h.os, h.tape, h.output, h.size, h.block⟩
theorem Only.drewN (h : Only S a w) (n : Nat) : Only S a (w.drewN n) := ⟨h.os, h.tape, h.output, h.size, h.block⟩
theorem Only.alloc (h : Only S a w) (o : Obj) : Only S a (w.alloc o) :=
  ⟨h.os, h.tape, h.output, Nat.le_trans h.size (by simp), fun i hi hn => (Below.heap_alloc w o i (Nat.lt_of_lt_of_le hi h.size)).trans (h.block i hi hn)⟩
theorem Only.setCell (h : Only S a w) {p : Addr} (hp : S p.block ∨ a.heap.size ≤ p.block) (u : Value) : Only S a (w.setCell p u) :=
  ⟨h.os, h.tape, h.output, by simpa using h.size, fun i hi hn => (Below.heap_setCell w p u i (by
    rintro rfl
    rcases hp with hp | hp
    · exact hn hp
    · omega)).trans (h.block i hi hn)⟩
theorem Only.setRow (h : Only S a w) {g : Nat} (hp : S g ∨ a.heap.size ≤ g) (cs : Array Value) : Only S a (w.setRow g cs) :=
  ⟨h.os, h.tape, h.output, by simpa using h.size, fun i hi hn => (setRow_other w g i cs (by
    rintro rfl
    rcases hp with hp | hp
    · exact hn hp
    · omega)).trans (h.block i hi hn)⟩
theorem Only.grown (h : Only S a w) {row : Option Nat} (hg : w.grownBy w' row) (hr : ∀ k, row = some k → S k ∨ a.heap.size ≤ k) : Only S a w' :=
  ⟨hg.os.trans h.os, hg.tape.trans h.tape, hg.output.trans h.output, Nat.le_trans h.size hg.size, fun i hi hn => (hg.block i (Nat.lt_of_lt_of_le hi h.size) (fun e => by
    rcases hr i e.symm with e | e
    · exact hn e
    · omega)).trans (h.block i hi hn)⟩
theorem Only.below {B : Nat} (h : Only S a w) (hB : ∀ k, S k → B ≤ k) (hz : B ≤ a.heap.size) : Below B a w :=
  ⟨h.os, h.tape, h.output, h.size, fun k hk => h.block k (by omega) fun e => by have := hB k e; omega⟩
theorem Only.of_below {B : Nat} (h : Below B a w) (hB : ∀ k, B ≤ k → k < a.heap.size → S k) : Only S a w :=
  ⟨h.os, h.tape, h.output, h.size, fun k hk hn => h.block k (by
    rcases Nat.lt_or_ge k B with e | e
    · exact e
    · exact absurd (hB k e hk) hn)⟩
end
theorem Blk.only {S : Nat → Prop} {w w' : World} {g : Nat} {t : TypeId} {cs : Array Value} (h : Blk w g t cs) (ho : Only S w w') (hg : ¬ S g) : Blk w' g t cs := (ho.block g h.lt hg).trans h

/-- A callee that leaves the world as it is, inside a quiet region: its contract has the caller's world on the left. -/
theorem quiet_left {P : Program} {f : FuncId} {args : Array Value} {w : World} {n : Nat} {v : Value}
    (h : Calls P f args (w.drewN n) fun e w' => e = .returned v ∧ w.drewN n = w') : Calls P f args (w.drewN n) fun e w'' => e = .returned v ∧ ∃ m, w'' = w.drewN m :=
  h.mono fun _ _ ⟨he, hm⟩ => ⟨he, n, hm.symm⟩
theorem quiet_left_add {P : Program} {f : FuncId} {args : Array Value} {w : World} {a n : Nat} {v : Value}
    (h : Calls P f args (w.drewN (a + n)) fun e w' => e = .returned v ∧ w.drewN (a + n) = w') : Calls P f args (w.drewN (a + n)) fun e w'' => e = .returned v ∧ ∃ m, w'' = w.drewN (a + m) :=
  h.mono fun _ _ ⟨he, hm⟩ => ⟨he, n, hm.symm⟩

/-- A struct or an array built out of its parts. -/
theorem wpList_build_to {P : Program} {ops : Array Oper} {rest : List Oper} {o : Oper} {a : Act} {w : World} {Q : Exit → Act → World → Prop} (hg : o.guard = none) (t : TypeId) (parts : Array (Nat × Operand)) (ho : o.op = .build t parts)
    (cells : Array Value) (hb : P.built t (parts.toList.map fun x => (x.1, a.eval x.2)) = some cells)
    (h : wpList P ops Q rest (a.put o.dst (.agg cells)) w) : wpList P ops Q (o :: rest) a w := by
  have hb' : P.built t (parts.map fun (i, x) => (i, a.eval x)).toList = some cells := by rw [Array.toList_map]; exact hb
  exact wpList_build hg t parts ho (by rw [hb']; rfl) (by rw [hb']; exact h)

/-- A result in a block and a result in a slot. -/
theorem results_row_tmp {P : Program} {fn : Func} {p u : Tmp} {ty : TypeId} (h : fn.results = #[.cell p ty, .tmp u]) (tmps : Array Value) (w : World) (g : Nat) (t : TypeId) (cs : Array Value) (d : TypeDesc)
    (hp : tmps.getD p undef = .pointer (some ⟨g, 0, none⟩)) (hg : w.heap[g]? = some (.cells cs t (0, 0)))
    (hu : P.underlying ty = some d) (hd : (match d with | .struct _ | .array _ _ => true | _ => false) = true) (hi : (P.info? ty).map (·.size) = some cs.size) :
    (results fn tmps).run P w = .ok (.tuple #[.agg cs, tmps.getD u undef]) w := by
  rw [results_cell_tmp h, hp]
  simp [asAddr, run_loadVar_row w g t ty cs (0, 0) d hg hu hd hi]

/-- A string's bytes. -/
def bs (s : ByteArray) : List Nat := s.data.toList.map UInt8.toNat
theorem length_bs (s : ByteArray) : (bs s).length = s.size := by simp [bs]
theorem get_bs (s : ByteArray) (k : Nat) (h : k < s.size) : (bs s)[k]? = some (s[k]'h).toNat := by
  unfold bs
  rw [List.getElem?_map, List.getElem?_eq_getElem (by simpa using h)]
  rfl

/-- The rest of a text from a place on. -/
theorem bs_extract (p : ByteArray) (a : Nat) : bs (p.extract a p.size) = (bs p).drop a := by
  unfold bs
  rw [← List.map_drop]
  congr 1
  have := ByteArray.data_extract (a := p) (b := a) (e := p.size)
  rw [this]
  simp only [Array.toList_extract, List.extract_eq_take_drop]
  exact List.take_of_length_le (by simp)
theorem size_rest (p : ByteArray) (a : Nat) : (p.extract a p.size).size = p.size - a := by
  simp [ByteArray.size_extract]
theorem isEmpty_pos {q : ByteArray} (h : 0 < q.size) : q.toList.isEmpty = false := by
  rw [ByteArray.toList_eq]
  cases hd : q.data.toList with
  | cons a b => rfl
  | nil =>
    have : q.data.toList.length = 0 := by rw [hd]; rfl
    have h2 : q.data.toList.length = q.size := by simp
    omega
theorem isEmpty_zero {q : ByteArray} (h : q.size = 0) : q.toList.isEmpty = true := by
  rw [ByteArray.toList_eq]
  cases hd : q.data.toList with
  | nil => rfl
  | cons a b =>
    have : q.data.toList.length = b.length + 1 := by rw [hd]; rfl
    have h2 : q.data.toList.length = q.size := by simp
    omega

end Go.Proofs.Ytfihccfjboopiaa
