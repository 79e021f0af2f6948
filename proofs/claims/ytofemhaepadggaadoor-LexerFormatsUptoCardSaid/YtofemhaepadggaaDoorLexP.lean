/-
  THE PLAIN READING of tokens: what a line's tokens are. No program in sight. Bytes as numbers; a text out of a list of bytes: ofL.
-/
import Derived.Test.YtofemhaepadggaaDoorLexText
namespace Go.Proofs.YtofemhaepadggaaDoor.L

def letter (c : Nat) : Bool := decide (65 ≤ c) && decide (c ≤ 90)
def inName (c : Nat) : Bool := decide (32 < c) && decide (c ≤ 126) && decide (c ≠ 123) && decide (c ≠ 125) && decide (c ≠ 34)
def plainB (c : Nat) : Bool := decide (c = 9) || (decide (32 ≤ c) && decide (c ≤ 126))
/-- How many bytes at the beginning are of a kind. -/
def cnt (p : Nat → Bool) (l : List Nat) : Nat := (l.takeWhile p).length
theorem cnt_le (p : Nat → Bool) : ∀ l : List Nat, cnt p l ≤ l.length
  | [] => by simp [cnt]
  | c :: l => by
    have := cnt_le p l
    unfold cnt at *
    rw [List.takeWhile_cons]
    split <;> simp <;> omega
theorem cnt_stop {p : Nat → Bool} : ∀ {l : List Nat} {k : Nat}, (∀ j, j < k → ∃ c, l[j]? = some c ∧ p c = true) → (∀ c, l[k]? = some c → p c = false) → cnt p l = k
  | [], k, h1, _ => by
    cases k with
    | zero => rfl
    | succ k => obtain ⟨c, h, _⟩ := h1 0 (by omega); cases h
  | c :: l, 0, _, h2 => by
    have := h2 c rfl
    simp [cnt, this]
  | c :: l, k + 1, h1, h2 => by
    obtain ⟨d, hd, hp⟩ := h1 0 (by omega)
    simp at hd
    subst hd
    have := cnt_stop (l := l) (k := k) (fun j hj => by simpa using h1 (j + 1) (by omega)) (fun c hc => h2 c (by simpa using hc))
    unfold cnt at *
    rw [List.takeWhile_cons, hp]
    simp [this]
theorem cnt_at {p : Nat → Bool} : ∀ {l : List Nat} {c : Nat}, l[cnt p l]? = some c → p c = false
  | [], c, h => by cases h
  | a :: l, c, h => by
    unfold cnt at h
    rw [List.takeWhile_cons] at h
    cases hp : p a with
    | true =>
      rw [hp] at h
      simp only [if_true, List.length_cons, List.getElem?_cons_succ] at h
      exact cnt_at (l := l) h
    | false =>
      rw [hp] at h
      simp at h
      subst h
      exact hp

/-- A result: the part read, what is left, the error. -/
abbrev Res := List Nat × List Nat × Int
/-- A name in braces, if there are any. -/
def nameS (l : List Nat) : Res := match l with
  | 123 :: r => if cnt inName r = r.length then ([], [], 83) else if cnt inName r = 0 ∨ r[cnt inName r]? ≠ some 125 then ([], [], 82) else (r.take (cnt inName r), r.drop (cnt inName r + 1), 0)
  | _ => ([], l, 0)
def opsL : List (List Nat) := [[61, 61], [33, 61], [43, 61], [45, 61], [58, 61], [61]]
def opS (l : List Nat) : Res := match opsL.find? (fun x => x.isPrefixOf l) with
  | some x => (x, l.drop x.length, 0)
  | none => ([], [], 82)
def valGo : List Nat → List Nat → Res
  | _, [] => ([], [], 83)
  | acc, 34 :: r => (acc, r, 0)
  | _, 9 :: _ => ([], [], 82)
  | acc, 92 :: 34 :: r => valGo (acc ++ [34]) r
  | acc, c :: r => valGo (acc ++ [c]) r
def valS (l : List Nat) : Res := match l with
  | 34 :: r => valGo [] r
  | _ => ([], [], 82)

structure Tok where
  k : List Nat
  n : List Nat
  o : List Nat
  v : List Nat
deriving DecidableEq
def tok0 : Tok := ⟨[], [], [], []⟩
/-- A token at the beginning: the token, the rest, the error. -/
def tokS (l : List Nat) : Tok × List Nat × Int :=
  if cnt letter l = 0 then (tok0, [], 82) else
  let a := nameS (l.drop (cnt letter l))
  if a.2.2 ≠ 0 then (tok0, [], a.2.2) else
  let b := opS a.2.1
  if b.2.2 ≠ 0 then (tok0, [], b.2.2) else
  let c := valS b.2.1
  if c.2.2 ≠ 0 then (tok0, [], c.2.2) else (⟨l.take (cnt letter l), a.1, b.1, c.1⟩, c.2.1, 0)
def sepL (c : Nat) : Bool := decide (c = 32) || decide (c = 9) || decide (c = 44)
def tokGo : Nat → Bool → List Nat → List Tok → List Tok × Int
  | 0, _, _, _ => ([], 82)
  | f + 1, behind, l, acc =>
    if l.dropWhile sepL = [] then (acc, 0)
    else if behind = true ∧ (l.dropWhile sepL).length = l.length then ([], 82)
    else if (tokS (l.dropWhile sepL)).2.2 ≠ 0 then ([], (tokS (l.dropWhile sepL)).2.2)
    else tokGo f true (tokS (l.dropWhile sepL)).2.1 (acc ++ [(tokS (l.dropWhile sepL)).1])
def tokensS (l : List Nat) : List Tok × Int :=
  if 1024 < l.length then ([], 81) else if l.all plainB = false then ([], 80) else tokGo (l.length + 1) false l []

end Go.Proofs.YtofemhaepadggaaDoor.L
