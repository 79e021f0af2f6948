/-
  PLAIN: a value with its quotes escaped; the line of tokens. No program in sight.
-/
import Derived.Test.YtofemhaepadggaaDoorLexTokens
import Derived.Test.YtofemhaepadggaaDoorLexShelfB
namespace Go.Proofs.YtofemhaepadggaaDoor

def escU : List UInt8 → List UInt8
  | [] => []
  | c :: l => if c = 34 then 92 :: 34 :: escU l else c :: escU l
theorem repK_cons_ne (c : UInt8) (hc : c ≠ 34) (l : List UInt8) (k : Nat) (hk : Lib.count l [34] = k) :
    Lib.replaceK [34] [92, 34] k (c :: l) = c :: Lib.replaceK [34] [92, 34] k l := by
  cases k with
  | zero => rfl
  | succ k =>
    have hp : ([34] : List UInt8).isPrefixOf (c :: l) = false := by simp [List.isPrefixOf, Ne.symm hc]
    have hix : Lib.index (c :: l) [34] = if Lib.index l [34] == -1 then -1 else Lib.index l [34] + 1 := by rw [Lib.index, hp]; simp
    have hge := Lib.index_ge l [34]
    unfold Lib.replaceK
    by_cases hm : Lib.index l [34] = -1
    · rw [Lib.count_miss hm] at hk; omega
    · have e1 : ¬ (Lib.index l [34] == -1) = true := fun e => hm (beq_iff_eq.1 e)
      have e2 : Lib.index (c :: l) [34] = Lib.index l [34] + 1 := by rw [hix, if_neg e1]
      have e3 : ¬ (Lib.index (c :: l) [34] == -1) = true := fun e => by have := beq_iff_eq.1 e; omega
      rw [if_neg e1, if_neg e3, e2]
      have e4 : (Lib.index l [34] + 1).toNat = (Lib.index l [34]).toNat + 1 := by omega
      rw [e4]
      simp only [List.take_succ_cons, List.cons_append]
      congr 2
theorem rep_esc : ∀ l : List UInt8, Lib.replaceK [34] [92, 34] (Lib.count l [34]) l = escU l
  | [] => by
    rw [Lib.count_miss (by simp [Lib.index])]
    rfl
  | c :: l => by
    have ih := rep_esc l
    by_cases hc : c = 34
    · subst hc
      rw [Lib.count_cons_eq, Nat.add_comm]
      unfold Lib.replaceK escU
      have hix : Lib.index (34 :: l) [34] = 0 := by rw [Lib.index]; simp [List.isPrefixOf]
      rw [hix]
      simp [ih]
    · rw [Lib.count_cons_ne c 34 l hc, repK_cons_ne c hc l _ rfl, ih, escU, if_neg hc]
theorem replaceAll_esc (l : List UInt8) : Lib.replaceAll l [34] [92, 34] = escU l := by
  unfold Lib.replaceAll Lib.replace Lib.replaceNum
  rw [if_neg (by decide), if_pos (.inl (by decide))]
  exact rep_esc l
def escB (v : ByteArray) : ByteArray := ⟨(escU v.data.toList).toArray⟩
namespace L
def esc : List Nat → List Nat
  | [] => []
  | c :: l => if c = 34 then 92 :: 34 :: esc l else c :: esc l
end L
theorem esc_map : ∀ l : List UInt8, (escU l).map UInt8.toNat = L.esc (l.map UInt8.toNat)
  | [] => rfl
  | c :: l => by
    have ih := esc_map l
    unfold escU
    rw [List.map_cons, L.esc]
    by_cases h : c = 34
    · subst h
      rw [if_pos rfl, if_pos (show UInt8.toNat 34 = 34 from rfl), List.map_cons, List.map_cons, ih]; rfl
    · rw [if_neg h, if_neg (show ¬ c.toNat = 34 from fun e => h (UInt8.toNat_inj.1 e)), List.map_cons, ih]
theorem bs_esc (v : ByteArray) : bs (escB v) = L.esc (bs v) := by
  unfold escB
  rw [bs_of, esc_map]; rfl
theorem esc_len : ∀ l : List Nat, (L.esc l).length ≤ 2 * l.length
  | [] => Nat.le_refl _
  | c :: l => by
    have := esc_len l
    unfold L.esc
    split <;> simp <;> omega
theorem escB_size (v : ByteArray) : (escB v).size ≤ 2 * v.size := by
  have := esc_len (bs v)
  rwa [← bs_esc, length_bs, length_bs] at this
theorem bs_app (a b : ByteArray) : bs (a ++ b) = bs a ++ bs b := by simp [bs]

open Go.RowKit in
theorem esc_any (v : ByteArray) (m : Int) (w : World) (hs : v.size ≤ 2000000) (hm : w.cell? ⟨0, 0, none⟩ = some (.int .i64 m)) :
    Calls Tryd.prog 28 #[.string v, .string ⟨#[34]⟩, .string ⟨#[92, 34]⟩] w fun e w' => e = .returned (.string (escB v)) ∧ Below w.heap.size w w' := by
  have hc := Lib.countB_le ⟨#[34]⟩ (by decide) v.size v (Nat.le_refl _)
  refine (Tryd.strings_ReplaceAll v ⟨#[34]⟩ ⟨#[92, 34]⟩ m w (by omega) hm (by decide) ?_).mono ?_
  · show v.size + _ * 2 ≤ _
    omega
  · rintro e w' ⟨rfl, hb⟩
    refine ⟨?_, hb⟩
    show Ending.returned (Value.string ⟨(Lib.replaceAll v.data.toList [34] [92, 34]).toArray⟩) = _
    rw [replaceAll_esc]; rfl

namespace L
def valB (c : Nat) : Bool := decide (32 ≤ c) && decide (c ≤ 126)
/-- Can a token be written? -/
def good (x : Tok) : Bool := decide (x.k ≠ []) && x.k.all letter && x.n.all inName && opsL.contains x.o && x.v.all valB && decide (x.v.getLast? ≠ some 92)
/-- A token, written. -/
def one (x : Tok) : List Nat := x.k ++ (if x.n = [] then [] else 123 :: x.n ++ [125]) ++ x.o ++ 34 :: esc x.v ++ [34]
def sepFirst : List (List Nat) → List Nat
  | [] => []
  | x :: l => x ++ (l.map ([44, 32] ++ ·)).flatten
/-- The line of tokens, or the error. -/
def fmt (l : List Tok) : List Nat × Int :=
  if l.all good = false then ([], 82) else if 1024 < (sepFirst (l.map one)).length then ([], 81) else (sepFirst (l.map one), 0)
end L

end Go.Proofs.YtofemhaepadggaaDoor
