/-
  THE MAP OF COSTS IN MEMORY: its keys are pairs of places.
-/
import Derived.Test.YtfihccfjboopiaaComStep
import Derived.Maps.OwnSet
import Derived.Maps.OwnOps
import Derived.DeepKeys4
namespace Go.Proofs.Ytfihccfjboopiaa
open Go.RowKit Go.Maps

def keyB (x : G.Pos) : List UInt8 := keyBytes [.int .i64 x.a, .int .i64 x.i, .int .i64 x.b, .int .i64 x.j]
def keyL (x : G.Pos) : Lit := .string (keyB x)
theorem cells_pair : Try.prog.cellsOf 86 = 4 := by kernel_rfl
theorem cells_place : Try.prog.cellsOf 84 = 2 := by kernel_rfl
theorem cells_int : Try.prog.cellsOf 3 = 1 := by kernel_rfl
theorem wf_small {n : Nat} (h : n ≤ 1000000000) : (Lit.int .i64 (n : Int)).wf = true := WalkArith.wf_i64 (by omega)
def Small (x : G.Pos) : Prop := x.a ≤ 1000000000 ∧ x.i ≤ 1000000000 ∧ x.b ≤ 1000000000 ∧ x.j ≤ 1000000000
theorem keyLits_int1 (d : Nat) {n : Nat} (h : n ≤ 1000000000) : Try.prog.keyLits (d + 1) 3 [.int .i64 n] = some [.int .i64 n] := by
  unfold Program.keyLits
  rw [Try.underlying3]
  simp [wf_small h]
theorem keyLits_place (d : Nat) {a i : Nat} (h1 : a ≤ 1000000000) (h2 : i ≤ 1000000000) : Try.prog.keyLits (d + 2) 84 [.int .i64 a, .int .i64 i] = some [.int .i64 a, .int .i64 i] := by
  unfold Program.keyLits
  rw [Try.underlying84]
  simp [cells_place, cells_int, keyLits_int1 d h1, keyLits_int1 d h2]
theorem keyLits_pair (d : Nat) {x : G.Pos} (h : Small x) : Try.prog.keyLits (d + 3) 86 (posL x) = some [.int .i64 x.a, .int .i64 x.i, .int .i64 x.b, .int .i64 x.j] := by
  obtain ⟨h1, h2, h3, h4⟩ := h
  unfold Program.keyLits
  rw [Try.underlying86]
  simp [cells_pair, cells_place, posL, keyLits_place d h1 h2, keyLits_place d h3 h4]
theorem types_many : ∃ d, Try.prog.types.size + 1 = d + 3 := ⟨Try.prog.types.size - 2, by
  have : 2 ≤ Try.prog.types.size := of_decide_eq_true (by kernel_rfl)
  omega⟩
theorem keyType_pair : Try.prog.keyType 86 = true := by kernel_rfl
theorem key_pos {x : G.Pos} (h : Small x) : keyOf Try.prog 86 (.agg #[.int .i64 x.a, .int .i64 x.i, .int .i64 x.b, .int .i64 x.j]) = some (keyL x) := by
  obtain ⟨d, hd⟩ := types_many
  have := keyLits_pair d h
  unfold posL at this
  have hf : (Value.agg #[.int .i64 x.a, .int .i64 x.i, .int .i64 x.b, .int .i64 x.j]).formed Try.prog 86 = true := by
    unfold Value.formed
    rw [Try.underlying86]
    simp [cells_pair]
  have hc : (Value.agg #[.int .i64 x.a, .int .i64 x.i, .int .i64 x.b, .int .i64 x.j]).cells.toList = [.int .i64 x.a, .int .i64 x.i, .int .i64 x.b, .int .i64 x.j] := rfl
  unfold keyOf
  rw [Try.underlying86, hd, hc, this, keyType_pair, hf]
  simp only [Bool.and_self, if_true, Option.map_some]
  rfl

theorem laidOut : laidOutB Try.prog = true := by kernel_rfl
theorem wide_pair : (match Try.prog.underlying 86 with | some (.array _ _) | some (.struct _) => true | _ => false) = true := by rw [Try.underlying86]
theorem row_pair : (86 : TypeId) < Try.prog.types.size := of_decide_eq_true (by kernel_rfl)
theorem keyAt_pair : Try.prog.keyTypeAt 3 86 = true := by kernel_rfl
theorem law0 : WideMaps.KeyLaw Try.prog 86 := by
  have h1 : 3 + 1 ≤ 10000 := by decide
  exact deep_law_laid laidOut h1 row_pair keyAt_pair (by rw [Try.underlying86])
theorem lawP : Keyed Try.prog 86 := Keyed.of_law law0
theorem keyL_inj {x y : G.Pos} (hx : Small x) (hy : Small y) (h : keyL x = keyL y) : x = y := by
  have := lawP.inj (key_pos hx) (by rw [h]; exact key_pos hy)
  obtain ⟨a, i, b, j⟩ := x
  obtain ⟨a', i', b', j'⟩ := y
  simp only [Value.agg.injEq, Array.mk.injEq, List.cons.injEq, Value.int.injEq, Int.natCast_inj, and_true, true_and] at this
  obtain ⟨rfl, rfl, rfl, rfl⟩ := this
  rfl
theorem zeroI (w : World) : (zeroValue 3).run Try.prog w = .ok (.int .i64 0) w := by kernel_rfl

theorem form_pair (a i b j : Int) : (Value.agg #[.int .i64 a, .int .i64 i, .int .i64 b, .int .i64 j]).formed Try.prog 86 = true := by
  unfold Value.formed
  rw [Try.underlying86]
  simp [cells_pair]
/-- '==' between two pairs of places. -/
theorem pair_eql {a i b j a' i' b' j' : Nat} (hx : Small ⟨a, i, b, j⟩) (hy : Small ⟨a', i', b', j'⟩) (W : World) :
    (binOp .eql 86 (.agg #[.int .i64 a, .int .i64 i, .int .i64 b, .int .i64 j]) (.agg #[.int .i64 a', .int .i64 i', .int .i64 b', .int .i64 j'])).run Try.prog W = .ok (.bool (decide ((⟨a, i, b, j⟩ : G.Pos) = ⟨a', i', b', j'⟩))) W := by
  have e1 : (Value.agg #[.int .i64 a, .int .i64 i, .int .i64 b, .int .i64 j]).cells.toList = posL ⟨a, i, b, j⟩ := rfl
  have e2 : (Value.agg #[.int .i64 a', .int .i64 i', .int .i64 b', .int .i64 j']).cells.toList = posL ⟨a', i', b', j'⟩ := rfl
  have k1 := keyLits_pair 0 hx
  have k2 := keyLits_pair 0 hy
  rw [← e1] at k1
  rw [← e2] at k2
  obtain ⟨r, hr, hiff⟩ := run_equalIn_deep (P := Try.prog) 9997 3 86 keyAt_pair W _ _ _ _ _ _ (form_pair _ _ _ _) (form_pair _ _ _ _) k1 k2
  have hr' : (Op.equalIn 10000 86 (.agg #[.int .i64 a, .int .i64 i, .int .i64 b, .int .i64 j]) (.agg #[.int .i64 a', .int .i64 i', .int .i64 b', .int .i64 j'])).run Try.prog W = .ok r W := hr
  have hd : r = decide ((⟨a, i, b, j⟩ : G.Pos) = ⟨a', i', b', j'⟩) := by
    rw [Bool.eq_iff_iff, hiff]
    simp [Int.natCast_inj]
  rw [run_eql_struct, hr', Result.andThen_ok, hd]

end Go.Proofs.Ytfihccfjboopiaa
