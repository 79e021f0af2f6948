/-
  PLAIN LAW OF GLOBS: what a pattern is, which texts its alternatives match. No program in sight.
-/
namespace Go.Proofs.Ytfihccfjboopiaa.G

/-- An element of an alternative, as the program keeps it: its literal byte (0: none), star, the bytes that it matches. -/
structure El where
  lit : Nat
  star : Bool
  set : Nat → Bool

/-- The bytes from 32 to 126. -/
def pr (c : Nat) : Bool := decide (32 ≤ c) && decide (c ≤ 126)

def starEl : El := ⟨0, true, pr⟩
def anyEl : El := ⟨0, false, pr⟩
def setEl (s : Nat → Bool) : El := ⟨0, false, s⟩
def litEl (c : Nat) : El := ⟨c, false, fun i => decide (i = c)⟩

/-- One more element at the end of the last alternative. -/
def app : List (List El) → El → List (List El)
  | [], x => [[x]]
  | [l], x => [l ++ [x]]
  | l :: m :: r, x => l :: app (m :: r) x

/-- Where the reader stands: outside a set, or inside of one (negated?, nothing read yet?, the bytes so far). -/
inductive St where
  | out
  | set (neg first : Bool) (s : Nat → Bool)

def none' : Nat → Bool := fun _ => false
def rng (s : Nat → Bool) (a b : Nat) : Nat → Bool := fun i => s i || (decide (a ≤ i) && decide (i ≤ b))
/-- The bytes of a set that has been read. -/
def fin (neg : Bool) (s : Nat → Bool) : Nat → Bool := if neg then fun i => pr i && !s i else s

/-- The alternatives of a pattern (all of whose bytes are from 32 to 126), none if it is no pattern. -/
def go : St → List (List El) → List Nat → Option (List (List El))
  | .out, acc, [] => some acc
  | .out, acc, c :: r =>
    if c = 124 then go .out (acc ++ [[]]) r
    else if c = 42 then go .out (app acc starEl) r
    else if c = 63 then go .out (app acc anyEl) r
    else if c = 91 then
      match r with
      | [] => none
      | d :: r' => if d = 33 then go (.set true true none') acc r' else go (.set false true none') acc (d :: r')
    else go .out (app acc (litEl c)) r
  | .set _ _ _, _, [] => none
  | .set neg first s, acc, c :: r =>
    if c = 93 then (if first then none else go .out (app acc (setEl (fin neg s))) r)
    else
      match r with
      | [] => go (.set neg false (rng s c c)) acc []
      | [d] => go (.set neg false (rng s c c)) acc [d]
      | d :: e :: r' =>
        if d = 45 ∧ e ≠ 93 then (if c ≤ e then go (.set neg false (rng s c e)) acc r' else none)
        else go (.set neg false (rng s c c)) acc (d :: e :: r')

/-- The member of a set that begins here: its first and its last byte, and how many bytes it is written with. -/
def mem : List Nat → Option (Nat × Nat × Nat)
  | [] => none
  | [c] => some (c, c, 1)
  | [c, _] => some (c, c, 1)
  | c :: d :: e :: _ => if d = 45 ∧ e ≠ 93 then some (c, e, 3) else some (c, c, 1)

theorem mem_pos {l : List Nat} {c d n : Nat} (h : mem l = some (c, d, n)) : 0 < n := by
  match l with
  | [] => cases h
  | [a] =>
    simp only [mem, Option.some.injEq, Prod.mk.injEq] at h
    omega
  | [a, b] =>
    simp only [mem, Option.some.injEq, Prod.mk.injEq] at h
    omega
  | a :: b :: e :: r =>
    by_cases hd : b = 45 ∧ e ≠ 93
    · rw [mem, if_pos hd] at h
      simp only [Option.some.injEq, Prod.mk.injEq] at h
      omega
    · rw [mem, if_neg hd] at h
      simp only [Option.some.injEq, Prod.mk.injEq] at h
      omega

/-- Inside a set, ahead of a member. -/
theorem go_mem {neg first : Bool} {s : Nat → Bool} {acc : List (List El)} {r : List Nat} {c e n : Nat} (h : mem r = some (c, e, n)) (hc : r.head? ≠ some 93) :
    go (.set neg first s) acc r = if c ≤ e then go (.set neg false (rng s c e)) acc (r.drop n) else none := by
  match r with
  | [] => cases h
  | [c'] =>
    simp only [mem, Option.some.injEq, Prod.mk.injEq] at h
    obtain ⟨rfl, rfl, rfl⟩ := h
    have : ¬ c' = 93 := by simpa using hc
    simp [go, this]
  | [c', d'] =>
    simp only [mem, Option.some.injEq, Prod.mk.injEq] at h
    obtain ⟨rfl, rfl, rfl⟩ := h
    have : ¬ c' = 93 := by simpa using hc
    rw [go, if_neg this]
    simp
  | c' :: d' :: e' :: r' =>
    have h93 : ¬ c' = 93 := by simpa using hc
    rw [go, if_neg h93]
    by_cases hd : d' = 45 ∧ e' ≠ 93
    · rw [mem, if_pos hd] at h
      simp only [Option.some.injEq, Prod.mk.injEq] at h
      obtain ⟨rfl, rfl, rfl⟩ := h
      rw [if_pos hd]; rfl
    · rw [mem, if_neg hd] at h
      simp only [Option.some.injEq, Prod.mk.injEq] at h
      obtain ⟨rfl, rfl, rfl⟩ := h
      rw [if_neg hd, if_pos (Nat.le_refl _)]; rfl
theorem go_close {neg first : Bool} {s : Nat → Bool} {acc : List (List El)} {r : List Nat} : go (.set neg first s) acc (93 :: r) = if first then none else go .out (app acc (setEl (fin neg s))) r := by
  cases r with
  | nil => simp [go]
  | cons d r => cases r <;> simp [go]
theorem go_end {neg first : Bool} {s : Nat → Bool} {acc : List (List El)} : go (.set neg first s) acc [] = none := by simp [go]

theorem go_bar (acc : List (List El)) (r : List Nat) : go .out acc (124 :: r) = go .out (acc ++ [[]]) r := by cases r <;> simp [go]
theorem go_star (acc : List (List El)) (r : List Nat) : go .out acc (42 :: r) = go .out (app acc starEl) r := by cases r <;> simp [go]
theorem go_any (acc : List (List El)) (r : List Nat) : go .out acc (63 :: r) = go .out (app acc anyEl) r := by cases r <;> simp [go]
theorem go_lit (acc : List (List El)) (c : Nat) (r : List Nat) (h1 : c ≠ 124) (h2 : c ≠ 42) (h3 : c ≠ 63) (h4 : c ≠ 91) : go .out acc (c :: r) = go .out (app acc (litEl c)) r := by
  cases r <;> simp [go, h1, h2, h3, h4]

/-- Which texts a list of elements matches. -/
def starM (f : List Nat → Bool) : List Nat → Bool
  | [] => f []
  | c :: s => f (c :: s) || starM f s
def mt : List El → List Nat → Bool
  | [], s => s.isEmpty
  | e :: l, s => if e.star then starM (mt l) s else match s with
    | [] => false
    | c :: s' => e.set c && mt l s'

/-- The pattern's alternatives, and why there are none: 20 .. are the error codes. -/
def alts (p : List Nat) : Option (List (List El)) := if p.length ≤ 256 ∧ p.all pr = true then go .out [[]] p else none

/-- Whether a pattern matches a text. -/
def matchS (p s : List Nat) : Bool := match alts p with
  | none => false
  | some l => s.all pr && l.any fun a => mt a s

end Go.Proofs.Ytfihccfjboopiaa.G
