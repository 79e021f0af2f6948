/-
  THE PLAIN READING of a text's physical lines: a text cut at each line feed. No program in sight.
-/
import Derived.Lib.SplitLaws
namespace Go.Proofs.YtofemhaepadggaaDoor

/-- A text cut at each byte 10. -/
def sp : List UInt8 → List (List UInt8)
  | [] => [[]]
  | c :: l => if c = 10 then [] :: sp l else (c :: (sp l).headD []) :: (sp l).tail
theorem sp_ne : ∀ l : List UInt8, sp l ≠ []
  | [] => by simp [sp]
  | c :: l => by
    unfold sp
    split <;> simp
theorem sp_cons (l : List UInt8) : (sp l).headD [] :: (sp l).tail = sp l := by
  cases h : sp l with
  | nil => exact absurd h (sp_ne l)
  | cons a t => rfl
theorem sp_app : ∀ a b : List UInt8, sp (a ++ 10 :: b) = sp a ++ sp b
  | [], b => by simp [sp]
  | c :: a, b => by
    have ih := sp_app a b
    rw [List.cons_append, sp, sp, ih]
    have := sp_ne a
    cases h : sp a with
    | nil => exact absurd h this
    | cons x t =>
      by_cases hc : c = 10
      · rw [if_pos hc, if_pos hc]; rfl
      · rw [if_neg hc, if_neg hc]; rfl

theorem splitK_cons_ne (c : UInt8) (hc : c ≠ 10) (l : List UInt8) (k : Nat) (hk : Lib.count l [10] = k) :
    Lib.splitK [10] 0 k (c :: l) = (c :: (Lib.splitK [10] 0 k l).headD []) :: (Lib.splitK [10] 0 k l).tail := by
  cases k with
  | zero => rfl
  | succ k =>
    have hp : ([10] : List UInt8).isPrefixOf (c :: l) = false := by simp [List.isPrefixOf, Ne.symm hc]
    have hix : Lib.index (c :: l) [10] = if Lib.index l [10] == -1 then -1 else Lib.index l [10] + 1 := by rw [Lib.index, hp]; simp
    have hge := Lib.index_ge l [10]
    unfold Lib.splitK
    by_cases hm : Lib.index l [10] = -1
    · rw [Lib.count_miss hm] at hk; omega
    · have e1 : ¬ (Lib.index l [10] == -1) = true := fun e => hm (beq_iff_eq.1 e)
      have e2 : Lib.index (c :: l) [10] = Lib.index l [10] + 1 := by rw [hix, if_neg e1]
      have e3 : ¬ (Lib.index (c :: l) [10] == -1) = true := fun e => by have := beq_iff_eq.1 e; omega
      rw [if_neg e1, if_neg e3, e2]
      have e4 : (Lib.index l [10] + 1).toNat = (Lib.index l [10]).toNat + 1 := by omega
      rw [e4]
      simp only [List.headD_cons, List.tail_cons, Nat.add_zero, List.take_succ_cons]
      congr 2
theorem split_sp : ∀ l : List UInt8, Lib.splitK [10] 0 (Lib.count l [10]) l = sp l
  | [] => by
    rw [Lib.count_miss (by simp [Lib.index])]
    rfl
  | c :: l => by
    have ih := split_sp l
    by_cases hc : c = 10
    · subst hc
      rw [Lib.count_cons_eq, Nat.add_comm]
      unfold Lib.splitK sp
      have hix : Lib.index (10 :: l) [10] = 0 := by rw [Lib.index]; simp [List.isPrefixOf]
      rw [hix]
      simp [ih]
    · rw [Lib.count_cons_ne c 10 l hc, splitK_cons_ne c hc l _ rfl, ih, sp, if_neg hc]

/-- The pieces of a text. -/
def pieces (s : ByteArray) : List ByteArray := Lib.splitB ⟨#[10]⟩ 0 (Lib.countB s ⟨#[10]⟩) s
theorem pieces_data (s : ByteArray) : (pieces s).map (·.data.toList) = sp s.data.toList := by
  unfold pieces
  rw [Lib.splitB_data]
  exact split_sp _
theorem map_data_inj {a b : List ByteArray} (h : a.map (·.data.toList) = b.map (·.data.toList)) : a = b := by
  induction a generalizing b with
  | nil => cases b with
    | nil => rfl
    | cons x b => simp at h
  | cons x a ih => cases b with
    | nil => simp at h
    | cons y b =>
      simp only [List.map_cons, List.cons.injEq] at h
      rw [ih h.2]
      congr 1
      have := Array.toList_inj.1 h.1
      cases x; cases y
      simp only at this
      rw [this]
theorem pieces_app (a b : ByteArray) : pieces (a ++ ⟨#[10]⟩ ++ b) = pieces a ++ pieces b := by
  apply map_data_inj
  rw [List.map_append, pieces_data, pieces_data, pieces_data, ← sp_app]
  congr 1
  simp

theorem sp_le : ∀ (l : List UInt8) (x : List UInt8), x ∈ sp l → x.length ≤ l.length
  | [], x, h => by simp [sp] at h; simp [h]
  | c :: l, x, h => by
    have ih := sp_le l
    unfold sp at h
    split at h
    · rcases List.mem_cons.1 h with h | h
      · subst h; simp
      · have := ih x h; simp; omega
    · rcases List.mem_cons.1 h with h | h
      · subst h
        have : (sp l).headD [] ∈ sp l := by
          cases hs : sp l with
          | nil => exact absurd hs (sp_ne l)
          | cons a t => simp
        have := ih _ this
        simp only [List.length_cons]; omega
      · have := ih x (List.mem_of_mem_tail h); simp; omega
theorem piece_le (s x : ByteArray) (h : x ∈ pieces s) : x.size ≤ s.size := by
  have : x.data.toList ∈ (pieces s).map (·.data.toList) := List.mem_map.2 ⟨x, h, rfl⟩
  rw [pieces_data] at this
  have := sp_le _ _ this
  simpa using this

/-- The physical lines: without an empty one at the end. -/
def phys (s : ByteArray) : List ByteArray := if ((pieces s).getLast?.getD ⟨#[]⟩).size = 0 then (pieces s).dropLast else pieces s
theorem pieces_ne (s : ByteArray) : pieces s ≠ [] := by
  intro h
  have := pieces_data s
  rw [h] at this
  exact sp_ne _ this.symm

def lastB (x : ByteArray) : Bool := decide (x.data.toList.getLast? = some 92)
def cutB (x : ByteArray) : ByteArray := if lastB x then x.extract 0 (x.size - 1) else x
/-- A logical line: its text, and how many physical lines it takes. -/
def grp : List ByteArray → ByteArray × Nat
  | [] => (⟨#[]⟩, 0)
  | x :: r => if lastB x then (cutB x ++ (grp r).1, (grp r).2 + 1) else (x, 1)
theorem grp_pos {l : List ByteArray} (h : l ≠ []) : 1 ≤ (grp l).2 := by
  cases l with
  | nil => exact absurd rfl h
  | cons x r =>
    unfold grp
    split <;> simp
theorem grp_le : ∀ l : List ByteArray, (grp l).2 ≤ l.length
  | [] => by simp [grp]
  | x :: r => by
    have := grp_le r
    unfold grp
    split <;> simp <;> omega
def sepT (c : Nat) : Bool := decide (c = 32) || decide (c = 9)
def blankL (l : List Nat) : Bool := match l.dropWhile sepT with
  | [] => true
  | c :: _ => decide (c = 35)
def lnGo (bl : ByteArray → Bool) : Nat → Nat → List ByteArray → List (Nat × ByteArray)
  | 0, _, _ => []
  | f + 1, n, l => match l with
    | [] => []
    | _ :: _ => (if bl (grp l).1 then [] else [(n + 1, (grp l).1)]) ++ lnGo bl f (n + (grp l).2) (l.drop (grp l).2)

end Go.Proofs.YtofemhaepadggaaDoor
