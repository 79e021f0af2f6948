/-
  WORDS ON MEMORY FOR THE WALKS OF THIS SEAT: a block that is known whole; what a call leaves as it was. No law of the program.
  PLAIN LAW OF GLOBS: what a pattern is, which texts its alternatives match. No program in sight.
  PLAIN LAW: the greedy loop over stars answers whether the elements match (one step lemma a way of the loop); and the set of places answers the same. No program in sight.
  HOW THE PACKAGE glob KEEPS ITS SETS AND ELEMENTS IN MEMORY; what their types' rows say.
-/
import Derived.WalkKit
import Derived.WalkSpells
import Derived.WalkLawsBesides
import Derived.Lib.Hide
import Derived.Deep.MidRow
import Derived.Deep.QuietTactic
import Derived.BigQuiet
import Derived.Deep.RegionWith
import Derived.Deep.RegionHeld3
import Derived.StillTailTactics
import Derived.Deep.CutBlock
import Derived.Deep.LoopGhost
import Derived.Maps.RangeWalk
import Derived.Deep.DeepCutAuto
import Derived.Test.YtinjeijjfkkhbaaGreatDoorRows
namespace Go.Proofs.YtinjeijjfkkhbaaGreatDoor
open Go.RowKit

/-- Block g holds these cells, none of them frozen. -/
def Blk (w : World) (g : Nat) (t : TypeId) (cs : Array Value) : Prop := w.heap[g]? = some (.cells cs t (0, 0))

section
variable {w w' : World} {g : Nat} {t : TypeId} {cs : Array Value}
theorem Blk.lt (h : Blk w g t cs) : g < w.heap.size := (Array.getElem?_eq_some_iff.1 h).1
theorem Blk.cell (h : Blk w g t cs) (i : Nat) : w.cell? ⟨g, i, none⟩ = cs[i]? := cell_of_row w g i cs t (0, 0) h
theorem Blk.frozen (h : Blk w g t cs) (i : Nat) : w.frozen? ⟨g, i, none⟩ = false := frozen_of_row w g i cs t h
theorem Blk.new (w : World) (t : TypeId) (cs : Array Value) : Blk (w.alloc (.cells cs t)) w.heap.size t cs := heap_alloc_new w _
theorem Blk.new_ (w : World) (t : TypeId) (cs : Array Value) (h : g = w.heap.size) : Blk (w.alloc (.cells cs t)) g t cs := h ▸ heap_alloc_new w _
theorem Blk.alloc (h : Blk w g t cs) (o : Obj) : Blk (w.alloc o) g t cs := (Below.heap_alloc w o g h.lt).trans h
theorem Blk.drew (h : Blk w g t cs) : Blk w.drew g t cs := h
theorem Blk.drewN (h : Blk w g t cs) (n : Nat) : Blk (w.drewN n) g t cs := h
theorem Blk.store (h : Blk w g t cs) (i : Nat) (u : Value) : Blk (w.setCell ⟨g, i, none⟩ u) g t (cs.setIfInBounds i u) := by
  unfold Blk at h ⊢
  simp [World.setCell, Array.getElem?_modify, h]
theorem Blk.other (h : Blk w g t cs) {p : Addr} (hp : g ≠ p.block) (u : Value) : Blk (w.setCell p u) g t cs := (Below.heap_setCell w p u g hp).trans h
theorem Blk.row (h : Blk w g t cs) (cs' : Array Value) : Blk (w.setRow g cs') g t cs' := setRow_heap w g cs cs' t (0, 0) h
theorem Blk.rowOther (h : Blk w g t cs) {g' : Nat} (hp : g ≠ g') (cs' : Array Value) : Blk (w.setRow g' cs') g t cs := (setRow_other w g' g cs' hp).trans h
theorem Blk.below {B : Nat} (h : Blk w g t cs) (hb : Below B w w') (hg : g < B) : Blk w' g t cs := (hb.block g hg).trans h
theorem Blk.same {w' : World} (h : Blk w g t cs) (hs : w'.heap[g]? = w.heap[g]?) : Blk w' g t cs := hs.trans h
theorem Blk.ne_ {g' : Nat} {t' : TypeId} {cs' : Array Value} (h : Blk w g t cs) (h' : Blk w g' t' cs') (hne : t ≠ t') : g ≠ g' := by
  rintro rfl
  unfold Blk at h h'
  rw [h] at h'
  injection h' with h'
  injection h' with _ ht
  exact hne ht
theorem Blk.range (h : Blk w g t cs) (o : Nat) (xs : List Value) (hx : ∀ j v, xs[j]? = some v → cs[o + j]? = some v) : w.rangeAt g o xs :=
  fun j v hv => (h.cell (o + j)).trans (hx j v hv)
theorem Blk.whole (h : Blk w g t cs) : w.rangeAt g 0 cs.toList := h.range 0 _ fun j v hv => by simpa using hv
end

theorem below_row {B : Nat} {a w : World} (h : Below B a w) {g : Nat} (hg : B ≤ g) (cs : Array Value) : Below B a (w.setRow g cs) :=
  h.trans ⟨rfl, rfl, rfl, by simp, fun k hk => setRow_other w g k cs (by omega)⟩
theorem below_drawN {B : Nat} {a w : World} (h : Below B a w) (n : Nat) : Below B a (w.drewN n) := ⟨h.os, h.tape, h.output, h.size, h.block⟩

/-- WHAT A CALL LEAVES: of the blocks that were there, only those in S may have turned. -/
structure Only (S : Nat → Prop) (w w' : World) : Prop where
  os : w'.os = w.os
  tape : w'.tape = w.tape
  output : w'.output = w.output
  size : w.heap.size ≤ w'.heap.size
  block : ∀ k, k < w.heap.size → ¬ S k → w'.heap[k]? = w.heap[k]?

section
variable {S : Nat → Prop} {a w w' : World}
theorem Only.refl (S : Nat → Prop) (w : World) : Only S w w := ⟨rfl, rfl, rfl, Nat.le_refl _, fun _ _ _ => rfl⟩
theorem Only.trans {c : World} (h : Only S a w) (k : Only S w c) : Only S a c :=
  ⟨k.os.trans h.os, k.tape.trans h.tape, k.output.trans h.output, Nat.le_trans h.size k.size, fun i hi hs => (k.block i (Nat.lt_of_lt_of_le hi h.size) hs).trans (h.block i hi hs)⟩
theorem Only.mono {S' : Nat → Prop} (h : Only S a w) (hs : ∀ k, S k → S' k) : Only S' a w := ⟨h.os, h.tape, h.output, h.size, fun k hk hn => h.block k hk fun e => hn (hs k e)⟩
/-- A callee's own: what it may turn is in S or was not there at the beginning. -/
theorem Only.step {S' : Nat → Prop} {c : World} (h : Only S a w) (k : Only S' w c) (hs : ∀ i, S' i → S i ∨ a.heap.size ≤ i) : Only S a c :=
  ⟨k.os.trans h.os, k.tape.trans h.tape, k.output.trans h.output, Nat.le_trans h.size k.size, fun i hi hn => (k.block i (Nat.lt_of_lt_of_le hi h.size) fun e => by
    rcases hs i e with e | e
    · exact hn e
    · omega).trans (h.block i hi hn)⟩
theorem Only.drew (h : Only S a w) : Only S a w.drew := ⟨h.os, h.tape, h.output, h.size, h.block⟩
theorem Only.drewN (h : Only S a w) (n : Nat) : Only S a (w.drewN n) := ⟨h.os, h.tape, h.output, h.size, h.block⟩
theorem Only.alloc (h : Only S a w) (o : Obj) : Only S a (w.alloc o) :=
  ⟨h.os, h.tape, h.output, Nat.le_trans h.size (by simp), fun i hi hn => (Below.heap_alloc w o i (Nat.lt_of_lt_of_le hi h.size)).trans (h.block i hi hn)⟩
theorem Only.setCell (h : Only S a w) {p : Addr} (hp : S p.block ∨ a.heap.size ≤ p.block) (u : Value) : Only S a (w.setCell p u) :=
  ⟨h.os, h.tape, h.output, by simpa using h.size, fun i hi hn => (Below.heap_setCell w p u i (by
    rintro rfl
    rcases hp with hp | hp
    · exact hn hp
    · omega)).trans (h.block i hi hn)⟩
theorem Only.setRow (h : Only S a w) {g : Nat} (hp : S g ∨ a.heap.size ≤ g) (cs : Array Value) : Only S a (w.setRow g cs) :=
  ⟨h.os, h.tape, h.output, by simpa using h.size, fun i hi hn => (setRow_other w g i cs (by
    rintro rfl
    rcases hp with hp | hp
    · exact hn hp
    · omega)).trans (h.block i hi hn)⟩
theorem Only.grown (h : Only S a w) {row : Option Nat} (hg : w.grownBy w' row) (hr : ∀ k, row = some k → S k ∨ a.heap.size ≤ k) : Only S a w' :=
  ⟨hg.os.trans h.os, hg.tape.trans h.tape, hg.output.trans h.output, Nat.le_trans h.size hg.size, fun i hi hn => (hg.block i (Nat.lt_of_lt_of_le hi h.size) (fun e => by
    rcases hr i e.symm with e | e
    · exact hn e
    · omega)).trans (h.block i hi hn)⟩
theorem Only.below {B : Nat} (h : Only S a w) (hB : ∀ k, S k → B ≤ k) (hz : B ≤ a.heap.size) : Below B a w :=
  ⟨h.os, h.tape, h.output, h.size, fun k hk => h.block k (by omega) fun e => by have := hB k e; omega⟩
theorem Only.of_below {B : Nat} (h : Below B a w) (hB : ∀ k, B ≤ k → k < a.heap.size → S k) : Only S a w :=
  ⟨h.os, h.tape, h.output, h.size, fun k hk hn => h.block k (by
    rcases Nat.lt_or_ge k B with e | e
    · exact e
    · exact absurd (hB k e hk) hn)⟩
end
theorem Blk.only {S : Nat → Prop} {w w' : World} {g : Nat} {t : TypeId} {cs : Array Value} (h : Blk w g t cs) (ho : Only S w w') (hg : ¬ S g) : Blk w' g t cs := (ho.block g h.lt hg).trans h

/-- A callee that leaves the world as it is, inside a quiet region: its contract has the caller's world on the left. -/
theorem quiet_left {P : Program} {f : FuncId} {args : Array Value} {w : World} {n : Nat} {v : Value}
    (h : Calls P f args (w.drewN n) fun e w' => e = .returned v ∧ w.drewN n = w') : Calls P f args (w.drewN n) fun e w'' => e = .returned v ∧ ∃ m, w'' = w.drewN m :=
  h.mono fun _ _ ⟨he, hm⟩ => ⟨he, n, hm.symm⟩
theorem quiet_left_add {P : Program} {f : FuncId} {args : Array Value} {w : World} {a n : Nat} {v : Value}
    (h : Calls P f args (w.drewN (a + n)) fun e w' => e = .returned v ∧ w.drewN (a + n) = w') : Calls P f args (w.drewN (a + n)) fun e w'' => e = .returned v ∧ ∃ m, w'' = w.drewN (a + m) :=
  h.mono fun _ _ ⟨he, hm⟩ => ⟨he, n, hm.symm⟩

/-- A struct or an array built out of its parts. -/
theorem wpList_build_to {P : Program} {ops : Array Oper} {rest : List Oper} {o : Oper} {a : Act} {w : World} {Q : Exit → Act → World → Prop} (hg : o.guard = none) (t : TypeId) (parts : Array (Nat × Operand)) (ho : o.op = .build t parts)
    (cells : Array Value) (hb : P.built t (parts.toList.map fun x => (x.1, a.eval x.2)) = some cells)
    (h : wpList P ops Q rest (a.put o.dst (.agg cells)) w) : wpList P ops Q (o :: rest) a w := by
  have hb' : P.built t (parts.map fun (i, x) => (i, a.eval x)).toList = some cells := by rw [Array.toList_map]; exact hb
  exact wpList_build hg t parts ho (by rw [hb']; rfl) (by rw [hb']; exact h)

/-- A result in a block and a result in a slot. -/
theorem results_row_tmp {P : Program} {fn : Func} {p u : Tmp} {ty : TypeId} (h : fn.results = #[.cell p ty, .tmp u]) (tmps : Array Value) (w : World) (g : Nat) (t : TypeId) (cs : Array Value) (d : TypeDesc)
    (hp : tmps.getD p undef = .pointer (some ⟨g, 0, none⟩)) (hg : w.heap[g]? = some (.cells cs t (0, 0)))
    (hu : P.underlying ty = some d) (hd : (match d with | .struct _ | .array _ _ => true | _ => false) = true) (hi : (P.info? ty).map (·.size) = some cs.size) :
    (results fn tmps).run P w = .ok (.tuple #[.agg cs, tmps.getD u undef]) w := by
  rw [results_cell_tmp h, hp]
  simp [asAddr, run_loadVar_row w g t ty cs (0, 0) d hg hu hd hi]

/-- A string's bytes. -/
def bs (s : ByteArray) : List Nat := s.data.toList.map UInt8.toNat
theorem length_bs (s : ByteArray) : (bs s).length = s.size := by simp [bs]
theorem get_bs (s : ByteArray) (k : Nat) (h : k < s.size) : (bs s)[k]? = some (s[k]'h).toNat := by
  unfold bs
  rw [List.getElem?_map, List.getElem?_eq_getElem (by simpa using h)]
  rfl

/-- The rest of a text from a place on. -/
theorem bs_extract (p : ByteArray) (a : Nat) : bs (p.extract a p.size) = (bs p).drop a := by
  unfold bs
  rw [← List.map_drop]
  congr 1
  have := ByteArray.data_extract (a := p) (b := a) (e := p.size)
  rw [this]
  simp only [Array.toList_extract, List.extract_eq_take_drop]
  exact List.take_of_length_le (by simp)
theorem size_rest (p : ByteArray) (a : Nat) : (p.extract a p.size).size = p.size - a := by
  simp [ByteArray.size_extract]
theorem isEmpty_pos {q : ByteArray} (h : 0 < q.size) : q.toList.isEmpty = false := by
  rw [ByteArray.toList_eq]
  cases hd : q.data.toList with
  | cons a b => rfl
  | nil =>
    have : q.data.toList.length = 0 := by rw [hd]; rfl
    have h2 : q.data.toList.length = q.size := by simp
    omega
theorem isEmpty_zero {q : ByteArray} (h : q.size = 0) : q.toList.isEmpty = true := by
  rw [ByteArray.toList_eq]
  cases hd : q.data.toList with
  | nil => rfl
  | cons a b =>
    have : q.data.toList.length = b.length + 1 := by rw [hd]; rfl
    have h2 : q.data.toList.length = q.size := by simp
    omega

end Go.Proofs.YtinjeijjfkkhbaaGreatDoor

namespace Go.Proofs.YtinjeijjfkkhbaaGreatDoor.G

/-- An element of an alternative, as the program keeps it: its literal byte (0: none), star, the bytes that it matches. -/
structure El where
  lit : Nat
  star : Bool
  set : Nat → Bool

/-- The bytes from 32 to 126. -/
def pr (c : Nat) : Bool := decide (32 ≤ c) && decide (c ≤ 126)

def starEl : El := ⟨0, true, pr⟩
def anyEl : El := ⟨0, false, pr⟩
def setEl (s : Nat → Bool) : El := ⟨0, false, s⟩
def litEl (c : Nat) : El := ⟨c, false, fun i => decide (i = c)⟩

/-- One more element at the end of the last alternative. -/
def app : List (List El) → El → List (List El)
  | [], x => [[x]]
  | [l], x => [l ++ [x]]
  | l :: m :: r, x => l :: app (m :: r) x

/-- Where the reader stands: outside a set, or inside of one (negated?, nothing read yet?, the bytes so far). -/
inductive St where
  | out
  | set (neg first : Bool) (s : Nat → Bool)

def none' : Nat → Bool := fun _ => false
def rng (s : Nat → Bool) (a b : Nat) : Nat → Bool := fun i => s i || (decide (a ≤ i) && decide (i ≤ b))
/-- The bytes of a set that has been read. -/
def fin (neg : Bool) (s : Nat → Bool) : Nat → Bool := if neg then fun i => pr i && !s i else s

/-- The alternatives of a pattern (all of whose bytes are from 32 to 126), none if it is no pattern. -/
def go : St → List (List El) → List Nat → Option (List (List El))
  | .out, acc, [] => some acc
  | .out, acc, c :: r =>
    if c = 124 then go .out (acc ++ [[]]) r
    else if c = 42 then go .out (app acc starEl) r
    else if c = 63 then go .out (app acc anyEl) r
    else if c = 91 then
      match r with
      | [] => none
      | d :: r' => if d = 33 then go (.set true true none') acc r' else go (.set false true none') acc (d :: r')
    else go .out (app acc (litEl c)) r
  | .set _ _ _, _, [] => none
  | .set neg first s, acc, c :: r =>
    if c = 93 then (if first then none else go .out (app acc (setEl (fin neg s))) r)
    else
      match r with
      | [] => go (.set neg false (rng s c c)) acc []
      | [d] => go (.set neg false (rng s c c)) acc [d]
      | d :: e :: r' =>
        if d = 45 ∧ e ≠ 93 then (if c ≤ e then go (.set neg false (rng s c e)) acc r' else none)
        else go (.set neg false (rng s c c)) acc (d :: e :: r')

/-- The member of a set that begins here: its first and its last byte, and how many bytes it is written with. -/
def mem : List Nat → Option (Nat × Nat × Nat)
  | [] => none
  | [c] => some (c, c, 1)
  | [c, _] => some (c, c, 1)
  | c :: d :: e :: _ => if d = 45 ∧ e ≠ 93 then some (c, e, 3) else some (c, c, 1)

theorem mem_pos {l : List Nat} {c d n : Nat} (h : mem l = some (c, d, n)) : 0 < n := by
  match l with
  | [] => cases h
  | [a] =>
    simp only [mem, Option.some.injEq, Prod.mk.injEq] at h
    omega
  | [a, b] =>
    simp only [mem, Option.some.injEq, Prod.mk.injEq] at h
    omega
  | a :: b :: e :: r =>
    by_cases hd : b = 45 ∧ e ≠ 93
    · rw [mem, if_pos hd] at h
      simp only [Option.some.injEq, Prod.mk.injEq] at h
      omega
    · rw [mem, if_neg hd] at h
      simp only [Option.some.injEq, Prod.mk.injEq] at h
      omega

/-- Inside a set, ahead of a member. -/
theorem go_mem {neg first : Bool} {s : Nat → Bool} {acc : List (List El)} {r : List Nat} {c e n : Nat} (h : mem r = some (c, e, n)) (hc : r.head? ≠ some 93) :
    go (.set neg first s) acc r = if c ≤ e then go (.set neg false (rng s c e)) acc (r.drop n) else none := by
  match r with
  | [] => cases h
  | [c'] =>
    simp only [mem, Option.some.injEq, Prod.mk.injEq] at h
    obtain ⟨rfl, rfl, rfl⟩ := h
    have : ¬ c' = 93 := by simpa using hc
    simp [go, this]
  | [c', d'] =>
    simp only [mem, Option.some.injEq, Prod.mk.injEq] at h
    obtain ⟨rfl, rfl, rfl⟩ := h
    have : ¬ c' = 93 := by simpa using hc
    rw [go, if_neg this]
    simp
  | c' :: d' :: e' :: r' =>
    have h93 : ¬ c' = 93 := by simpa using hc
    rw [go, if_neg h93]
    by_cases hd : d' = 45 ∧ e' ≠ 93
    · rw [mem, if_pos hd] at h
      simp only [Option.some.injEq, Prod.mk.injEq] at h
      obtain ⟨rfl, rfl, rfl⟩ := h
      rw [if_pos hd]; rfl
    · rw [mem, if_neg hd] at h
      simp only [Option.some.injEq, Prod.mk.injEq] at h
      obtain ⟨rfl, rfl, rfl⟩ := h
      rw [if_neg hd, if_pos (Nat.le_refl _)]; rfl
theorem go_close {neg first : Bool} {s : Nat → Bool} {acc : List (List El)} {r : List Nat} : go (.set neg first s) acc (93 :: r) = if first then none else go .out (app acc (setEl (fin neg s))) r := by
  cases r with
  | nil => simp [go]
  | cons d r => cases r <;> simp [go]
theorem go_end {neg first : Bool} {s : Nat → Bool} {acc : List (List El)} : go (.set neg first s) acc [] = none := by simp [go]

theorem go_bar (acc : List (List El)) (r : List Nat) : go .out acc (124 :: r) = go .out (acc ++ [[]]) r := by cases r <;> simp [go]
theorem go_star (acc : List (List El)) (r : List Nat) : go .out acc (42 :: r) = go .out (app acc starEl) r := by cases r <;> simp [go]
theorem go_any (acc : List (List El)) (r : List Nat) : go .out acc (63 :: r) = go .out (app acc anyEl) r := by cases r <;> simp [go]
theorem go_lit (acc : List (List El)) (c : Nat) (r : List Nat) (h1 : c ≠ 124) (h2 : c ≠ 42) (h3 : c ≠ 63) (h4 : c ≠ 91) : go .out acc (c :: r) = go .out (app acc (litEl c)) r := by
  cases r <;> simp [go, h1, h2, h3, h4]

/-- Which texts a list of elements matches. -/
def starM (f : List Nat → Bool) : List Nat → Bool
  | [] => f []
  | c :: s => f (c :: s) || starM f s
def mt : List El → List Nat → Bool
  | [], s => s.isEmpty
  | e :: l, s => if e.star then starM (mt l) s else match s with
    | [] => false
    | c :: s' => e.set c && mt l s'

/-- The pattern's alternatives, and why there are none: 20 .. are the error codes. -/
def alts (p : List Nat) : Option (List (List El)) := if p.length ≤ 256 ∧ p.all pr = true then go .out [[]] p else none

/-- Whether a pattern matches a text. -/
def matchS (p s : List Nat) : Bool := match alts p with
  | none => false
  | some l => s.all pr && l.any fun a => mt a s

end Go.Proofs.YtinjeijjfkkhbaaGreatDoor.G

namespace Go.Proofs.YtinjeijjfkkhbaaGreatDoor.G

theorem starM_iff (f : List Nat → Bool) (s : List Nat) : starM f s = true ↔ ∃ j, j ≤ s.length ∧ f (s.drop j) = true := by
  induction s with
  | nil =>
    simp only [starM]
    exact ⟨fun h => ⟨0, by simp, by simpa using h⟩, fun ⟨j, _, h⟩ => by simpa using h⟩
  | cons c s ih =>
    simp only [starM, Bool.or_eq_true, ih]
    constructor
    · rintro (h | ⟨j, hj, h⟩)
      · exact ⟨0, by simp, by simpa using h⟩
      · exact ⟨j + 1, by simpa using hj, by simpa using h⟩
    · rintro ⟨j, hj, h⟩
      cases j with
      | zero => exact .inl (by simpa using h)
      | succ j => exact .inr ⟨j, by simpa using hj, by simpa using h⟩

theorem mt_star {e : El} (he : e.star = true) (l : List El) (s : List Nat) : mt (e :: l) s = true ↔ ∃ j, j ≤ s.length ∧ mt l (s.drop j) = true := by
  have h : mt (e :: l) s = starM (mt l) s := by simp [mt, he]
  rw [h]; exact starM_iff _ _

theorem mt_one {e : El} (he : e.star = false) (l : List El) (c : Nat) (s : List Nat) : mt (e :: l) (c :: s) = (e.set c && mt l s) := by
  simp [mt, he]
theorem mt_one_nil {e : El} (he : e.star = false) (l : List El) : mt (e :: l) [] = false := by
  simp [mt, he]

/-- A run of elements without a star eats as many bytes. -/
theorem seg : ∀ (n : Nat) (l : List El) (s : List Nat), (∀ k e, k < n → l[k]? = some e → e.star = false) → n ≤ l.length → mt l s = true → n ≤ s.length ∧ mt (l.drop n) (s.drop n) = true
  | 0, l, s, _, _, h => ⟨by omega, by simpa using h⟩
  | n + 1, l, s, hs, hn, h => by
    cases l with
    | nil => simp at hn
    | cons e l =>
      have he : e.star = false := hs 0 e (by omega) rfl
      cases s with
      | nil => rw [mt_one_nil he] at h; cases h
      | cons c s =>
        rw [mt_one he, Bool.and_eq_true] at h
        have := seg n l s (fun k x hk hx => hs (k + 1) x (by omega) (by simpa using hx)) (by simpa using hn) h.2
        exact ⟨by simpa using this.1, by simpa using this.2⟩

theorem drop_of_get {α : Type} {l : List α} {k : Nat} {e : α} (h : l[k]? = some e) : l.drop k = e :: l.drop (k + 1) := by
  obtain ⟨hk, rfl⟩ := List.getElem?_eq_some_iff.1 h
  exact List.drop_eq_getElem_cons hk

/-- WHAT HOLDS at the head of the loop of 'matches'. star: none where the program has -1. -/
def Greedy (l : List El) (s : List Nat) (at_ : Nat) (star : Option Nat) (from_ i : Nat) : Prop :=
  at_ ≤ l.length ∧ i ≤ s.length ∧
  (mt l s = true ↔ mt (l.drop at_) (s.drop i) = true ∨ ∃ st, star = some st ∧ ∃ j, from_ < j ∧ j ≤ s.length ∧ mt (l.drop (st + 1)) (s.drop j) = true) ∧
  ∀ st, star = some st → st < at_ ∧ from_ ≤ i ∧ at_ - (st + 1) = i - from_ ∧ ∀ k e, st < k → k < at_ → l[k]? = some e → e.star = false

theorem Greedy.start (l : List El) (s : List Nat) : Greedy l s 0 none 0 0 :=
  ⟨by omega, by omega, by simp, fun st h => by cases h⟩

theorem Greedy.older {l : List El} {s : List Nat} {at_ from_ i st : Nat} (h : Greedy l s at_ (some st) from_ i) {j : Nat} (hj : from_ < j) (hjs : j ≤ s.length) (hm : mt (l.drop (st + 1)) (s.drop j) = true) :
    ∃ j', i < j' ∧ j' ≤ s.length ∧ mt (l.drop at_) (s.drop j') = true := by
  obtain ⟨h1, h2, _, h4⟩ := h
  obtain ⟨a, b, c, d⟩ := h4 st rfl
  have := seg (at_ - (st + 1)) (l.drop (st + 1)) (s.drop j) (fun k e hk he => d (st + 1 + k) e (by omega) (by omega) (by simpa using he)) (by simp; omega) hm
  refine ⟨j + (at_ - (st + 1)), by omega, by have := this.1; simp at this; omega, ?_⟩
  have h5 := this.2
  rw [List.drop_drop, List.drop_drop] at h5
  rw [show st + 1 + (at_ - (st + 1)) = at_ from by omega] at h5
  exact h5

theorem Greedy.star {l : List El} {s : List Nat} {at_ : Nat} {star : Option Nat} {from_ i : Nat} (h : Greedy l s at_ star from_ i) {e : El} (he : l[at_]? = some e) (hs : e.star = true) :
    Greedy l s (at_ + 1) (some at_) i i := by
  have h' := h
  obtain ⟨h1, h2, h3, h4⟩ := h
  have hlt : at_ < l.length := (List.getElem?_eq_some_iff.1 he).1
  have hm : mt (l.drop at_) (s.drop i) = true ↔ ∃ j, i ≤ j ∧ j ≤ s.length ∧ mt (l.drop (at_ + 1)) (s.drop j) = true := by
    rw [drop_of_get he, mt_star hs]
    constructor
    · rintro ⟨j, hj, h⟩; exact ⟨i + j, by omega, by simp at hj; omega, by simpa using h⟩
    · rintro ⟨j, hj, hj', h⟩; exact ⟨j - i, by simp; omega, by rw [List.drop_drop, show i + (j - i) = j from by omega]; exact h⟩
  refine ⟨by omega, h2, ?_, fun st hst => by injection hst with hst; subst hst; exact ⟨by omega, by omega, by omega, fun k e hk hk' => by omega⟩⟩
  rw [h3]
  constructor
  · intro hh
    have : ∃ j, i ≤ j ∧ j ≤ s.length ∧ mt (l.drop (at_ + 1)) (s.drop j) = true := by
      rcases hh with hh | ⟨st, rfl, j, hj, hjs, hmj⟩
      · exact hm.1 hh
      · obtain ⟨j', a, b, c⟩ := h'.older hj hjs hmj
        rw [drop_of_get he, mt_star hs] at c
        obtain ⟨k, hk, c⟩ := c
        exact ⟨j' + k, by omega, by simp at hk; omega, by simpa using c⟩
    obtain ⟨j, a, b, c⟩ := this
    rcases Nat.eq_or_lt_of_le a with rfl | a
    · exact .inl c
    · exact .inr ⟨at_, rfl, j, a, b, c⟩
  · rintro (hh | ⟨st, hst, j, hj, hjs, hmj⟩)
    · exact .inl (hm.2 ⟨i, by omega, h2, hh⟩)
    · injection hst with hst; subst hst
      exact .inl (hm.2 ⟨j, by omega, hjs, hmj⟩)

theorem Greedy.byte {l : List El} {s : List Nat} {at_ : Nat} {star : Option Nat} {from_ i : Nat} (h : Greedy l s at_ star from_ i) {e : El} (he : l[at_]? = some e) (hs : e.star = false) {c : Nat} (hc : s[i]? = some c) (hset : e.set c = true) :
    Greedy l s (at_ + 1) star from_ (i + 1) := by
  obtain ⟨h1, h2, h3, h4⟩ := h
  have hlt : at_ < l.length := (List.getElem?_eq_some_iff.1 he).1
  have hlt' : i < s.length := (List.getElem?_eq_some_iff.1 hc).1
  refine ⟨by omega, by omega, ?_, fun st hst => ?_⟩
  · rw [h3, drop_of_get he, drop_of_get hc, mt_one hs, hset, Bool.true_and]
  · obtain ⟨a, b, c', d⟩ := h4 st hst
    refine ⟨by omega, by omega, by omega, fun k x hk hk' hx => ?_⟩
    rcases Nat.eq_or_lt_of_le (Nat.le_of_lt_succ hk') with rfl | hk'
    · rw [he] at hx; injection hx with hx; subst hx; exact hs
    · exact d k x hk hk' hx

/-- The elements do not match here. -/
theorem stuck {l : List El} {s : List Nat} {at_ i : Nat} (hi : i < s.length) (h : ∀ e, l[at_]? = some e → e.star = false ∧ ∀ c, s[i]? = some c → e.set c = false) : mt (l.drop at_) (s.drop i) = false := by
  obtain ⟨c, hc⟩ : ∃ c, s[i]? = some c := ⟨s[i], List.getElem?_eq_getElem hi⟩
  rw [drop_of_get hc]
  cases he : l[at_]? with
  | none => rw [List.drop_eq_nil_of_le (List.getElem?_eq_none_iff.1 he)]; rfl
  | some e =>
    obtain ⟨a, b⟩ := h e he
    rw [drop_of_get he, mt_one a, b c hc, Bool.false_and]

theorem Greedy.back {l : List El} {s : List Nat} {at_ st from_ i : Nat} (h : Greedy l s at_ (some st) from_ i) (hi : i < s.length) (hno : mt (l.drop at_) (s.drop i) = false) :
    Greedy l s (st + 1) (some st) (from_ + 1) (from_ + 1) := by
  obtain ⟨h1, h2, h3, h4⟩ := h
  obtain ⟨a, b, c, d⟩ := h4 st rfl
  refine ⟨by omega, by omega, ?_, fun st' hst => by injection hst with hst; subst hst; exact ⟨by omega, by omega, by omega, fun k e hk hk' => by omega⟩⟩
  rw [h3, hno]
  constructor
  · rintro (hh | ⟨st', hst, j, hj, hjs, hm⟩)
    · cases hh
    · injection hst with hst; subst hst
      rcases Nat.eq_or_lt_of_le hj with rfl | hj
      · exact .inl hm
      · exact .inr ⟨st, rfl, j, hj, hjs, hm⟩
  · rintro (hh | ⟨st', hst, j, hj, hjs, hm⟩)
    · exact .inr ⟨st, rfl, from_ + 1, by omega, by omega, hh⟩
    · injection hst with hst; subst hst
      exact .inr ⟨st, rfl, j, by omega, hjs, hm⟩

theorem Greedy.no {l : List El} {s : List Nat} {at_ from_ i : Nat} (h : Greedy l s at_ none from_ i) (hno : mt (l.drop at_) (s.drop i) = false) : mt l s = false := by
  obtain ⟨_, _, h3, _⟩ := h
  cases hm : mt l s with
  | false => rfl
  | true =>
    rcases h3.1 hm with h | ⟨st, h, _⟩
    · rw [hno] at h; cases h
    · cases h

/-- At the end of the text: whether what is left is all stars. -/
theorem Greedy.done {l : List El} {s : List Nat} {at_ : Nat} {star : Option Nat} {from_ : Nat} (h : Greedy l s at_ star from_ s.length) : mt l s = mt (l.drop at_) [] := by
  have h' := h
  obtain ⟨h1, h2, h3, h4⟩ := h
  rw [Bool.eq_iff_iff, h3, List.drop_length]
  constructor
  · rintro (h | ⟨st, rfl, j, hj, hjs, hm⟩)
    · exact h
    · obtain ⟨j', a, b, _⟩ := h'.older hj hjs hm
      omega
  · exact .inl

theorem mt_nil_star {l : List El} {k : Nat} {e : El} (he : l[k]? = some e) (hs : e.star = true) : mt (l.drop k) [] = mt (l.drop (k + 1)) [] := by
  rw [drop_of_get he]; simp [mt, hs, starM]
theorem mt_nil_end {l : List El} {k : Nat} (hk : k ≤ l.length) (h : ∀ e, l[k]? = some e → e.star = false) : mt (l.drop k) [] = decide (k = l.length) := by
  cases he : l[k]? with
  | none =>
    have := List.getElem?_eq_none_iff.1 he
    rw [List.drop_eq_nil_of_le this]
    simp [mt]; omega
  | some e =>
    have := (List.getElem?_eq_some_iff.1 he).1
    rw [drop_of_get he, mt_one_nil (h e he)]
    symm; simp; omega

/-- A number that every step of the greedy loop lowers. -/
def gmu (L S st from_ i : Nat) : Nat := ((L + 1 - st) * (S + 2) + (S + 1 - from_)) * (S + 2) + (S + 1 - i)

theorem lex_lt {a b c d K : Nat} (h : a < b) (hc : c < K) : a * K + c < b * K + d := by
  have h1 : (a + 1) * K ≤ b * K := Nat.mul_le_mul_right K h
  rw [Nat.add_mul, Nat.one_mul] at h1
  omega

theorem gmu_star {L S at_ st from_ i : Nat} (h1 : st ≤ at_) (h2 : at_ < L) : gmu L S (at_ + 1) i i < gmu L S st from_ i := by
  unfold gmu
  exact lex_lt (lex_lt (by omega) (by omega)) (by omega)
theorem gmu_byte (L st from_ : Nat) {S i : Nat} (h : i < S) : gmu L S st from_ (i + 1) < gmu L S st from_ i := by
  unfold gmu; omega
theorem gmu_back (L st : Nat) {S from_ i : Nat} (h1 : from_ ≤ i) (h2 : i < S) : gmu L S st (from_ + 1) (from_ + 1) < gmu L S st from_ i := by
  unfold gmu
  exact lex_lt (Nat.add_lt_add_left (by omega) _) (by omega)

end Go.Proofs.YtinjeijjfkkhbaaGreatDoor.G

namespace Go.Proofs.YtinjeijjfkkhbaaGreatDoor
open Go.RowKit

/-- 127 bools. -/
def setArr (s : Nat → Bool) : Array Value := Array.ofFn (n := 127) fun i => .bool (s i.val)
theorem setArr_get (s : Nat → Bool) (k : Nat) (h : k < 127) : (setArr s)[k]? = some (.bool (s k)) := by
  simp [setArr, h]
theorem size_setArr (s : Nat → Bool) : (setArr s).size = 127 := by simp [setArr]
theorem one_setArr (s : Nat → Bool) : (setArr s).all (·.oneCell') = true := by
  rw [Array.all_eq_true_iff_forall_mem]
  intro v hv
  simp only [setArr, Array.mem_ofFn] at hv
  obtain ⟨i, rfl⟩ := hv
  rfl
def upd (s : Nat → Bool) (k : Nat) (b : Bool) : Nat → Bool := fun i => if i = k then b else s i
theorem setArr_upd (s : Nat → Bool) (k : Nat) (b : Bool) : (setArr s).setIfInBounds k (.bool b) = setArr (upd s k b) := by
  unfold setArr
  apply Array.ext
  · simp
  · intro i h1 h2
    rw [Array.getElem_setIfInBounds (by simpa using h1)]
    simp only [Array.getElem_ofFn, upd]
    by_cases h : k = i
    · simp [h]
    · rw [if_neg h, if_neg (fun e => h e.symm)]
theorem setArr_congr {s s' : Nat → Bool} (h : ∀ i, i < 127 → s i = s' i) : setArr s = setArr s' := by
  unfold setArr
  apply Array.ext
  · simp
  · intro i h1 h2
    simp only [Array.getElem_ofFn]
    rw [h i (by simpa using h1)]
theorem zero_set : Tryz.zeroCells114 = setArr G.none' := by kernel_rfl
def prTo (k : Nat) : Nat → Bool := fun i => decide (32 ≤ i) && decide (i < k)
theorem prTo_upd (k : Nat) (h : 32 ≤ k) : upd (prTo k) k true = prTo (k + 1) := by
  funext i
  simp only [upd, prTo]
  by_cases e : i = k
  · subst e; simp; omega
  · rw [if_neg e]; congr 1; simp; omega
theorem prTo_32 : prTo 32 = G.none' := by
  funext i
  simp only [prTo, G.none']
  by_cases h : 32 ≤ i
  · have : ¬ i < 32 := by omega
    simp [this]
  · simp [h]
theorem prTo_127 : setArr (prTo 127) = setArr G.pr := setArr_congr fun i hi => by
  simp only [prTo, G.pr]
  rw [show decide (i < 127) = decide (i ≤ 126) from by simp <;> omega]

theorem sizeSet : (Tryz.prog.info? 114).map (·.size) = some 127 := by kernel_rfl
theorem sizeSet' (s : Nat → Bool) : (Tryz.prog.info? 114).map (·.size) = some (setArr s).size := by rw [size_setArr]; exact sizeSet

/-- An element's cells. -/
def elArr (x : G.El) : Array Value := #[.int .u8 x.lit, .bool x.star] ++ setArr x.set
theorem size_elArr (x : G.El) : (elArr x).size = 129 := by simp [elArr, size_setArr]
theorem sizeEl : (Tryz.prog.info? 116).map (·.size) = some 129 := by kernel_rfl
theorem sizeEl' (x : G.El) : (Tryz.prog.info? 116).map (·.size) = some (elArr x).size := by rw [size_elArr]; exact sizeEl
theorem elArr_lit (x : G.El) : (elArr x)[0]? = some (.int .u8 x.lit) := by simp [elArr, Array.getElem?_append]
theorem elArr_star (x : G.El) : (elArr x)[1]? = some (.bool x.star) := by simp [elArr, Array.getElem?_append]
theorem elArr_set (x : G.El) (k : Nat) (h : k < 127) : (elArr x)[2 + k]? = some (.bool (x.set k)) := by
  unfold elArr
  rw [Array.getElem?_append_right (by simp)]
  simp [setArr_get _ _ h]
theorem one_elArr (x : G.El) : (elArr x).all (·.oneCell') = true := by
  simp only [elArr, Array.all_append, one_setArr, Bool.and_true]
  simp [Value.oneCell']
theorem elArr_upd (x : G.El) (k : Nat) (v : Bool) : (elArr x).setIfInBounds (2 + k) (.bool v) = elArr { x with set := upd x.set k v } := by
  have hx : (elArr { x with set := upd x.set k v }) = #[.int .u8 x.lit, .bool x.star] ++ (setArr x.set).setIfInBounds k (.bool v) := by rw [setArr_upd]; rfl
  rw [hx]
  unfold elArr
  apply Array.ext_getElem?
  intro i
  rw [Array.getElem?_setIfInBounds, Array.getElem?_append, Array.getElem?_append]
  have hz : (#[Value.int .u8 x.lit, Value.bool x.star] : Array Value).size = 2 := rfl
  rw [hz, Array.size_append, hz, size_setArr]
  by_cases h : 2 + k = i
  · subst h
    have a1 : ¬ 2 + k < 2 := by omega
    have a2 : (2 + k < 2 + 127) = (k < 127) := by
      rw [eq_iff_iff]; omega
    simp only [if_true, a1, if_false, Nat.add_sub_cancel_left, Array.getElem?_setIfInBounds, size_setArr, a2]
  · rw [if_neg h]
    by_cases h2 : i < 2
    · rw [if_pos h2, if_pos h2]
    · rw [if_neg h2, if_neg h2, Array.getElem?_setIfInBounds, if_neg (by omega)]

/-! What the literals of these types build. -/
theorem built_set : Tryz.prog.built 114 [] = some (setArr G.none') := by kernel_rfl
theorem built_lit (b : Nat) : Tryz.prog.built 116 [(0, .int .u8 b)] = some (elArr ⟨b, false, G.none'⟩) := by kernel_rfl
theorem built_star (s : Nat → Bool) : Tryz.prog.built 116 [(1, .bool true), (2, .agg (setArr s))] = some (elArr ⟨0, true, s⟩) := by kernel_rfl
theorem built_sub (s : Nat → Bool) : Tryz.prog.built 116 [(2, .agg (setArr s))] = some (elArr ⟨0, false, s⟩) := by kernel_rfl

end Go.Proofs.YtinjeijjfkkhbaaGreatDoor
