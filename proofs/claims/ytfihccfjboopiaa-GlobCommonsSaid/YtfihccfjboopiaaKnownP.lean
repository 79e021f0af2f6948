/-
  THE EXAMPLES OF THE CHAPTER: plain Lean, no program in sight.
-/
import Derived.Test.YtfihccfjboopiaaGlobBegin
namespace Go.Proofs.Ytfihccfjboopiaa.G

theorem ex1 : matchS [115, 100, 91, 97, 45, 99, 93, 42, 124, 110, 118, 109, 101, 63] [115, 100, 98, 49] = true := by decide +kernel
theorem ex2 : matchS [115, 100, 91, 33, 97, 45, 99, 93] [115, 100, 98] = false := by decide +kernel
theorem ex3 : alts [97, 42] = some [[litEl 97, starEl]] := by
  simp [alts, go, pr, app, litEl, starEl]
theorem ex4 : alts [42, 98] = some [[starEl, litEl 98]] := by
  simp [alts, go, pr, app, litEl, starEl]
theorem ex5 {r : Option (List Nat)} (h : IsCommon (matchS [97, 42]) (matchS [42, 98]) r) : r = some [97, 98] := by
  have m1 : matchS [97, 42] [97, 98] = true := by decide +kernel
  have m2 : matchS [42, 98] [97, 98] = true := by decide +kernel
  cases r with
  | none => exact absurd ⟨m1, m2⟩ (h.1 rfl [97, 98])
  | some t =>
    obtain ⟨h1, h2, h3⟩ := h.2 t rfl
    have h4 := h3 _ m1 m2
    have hl : t.length ≤ 2 := by
      unfold leqT at h4
      rcases h4 with h | h | h
      · simp at h; omega
      · rw [h]; simp
      · have := h.1; simp at this; omega
    have n0 : matchS [97, 42] [] = false := by decide +kernel
    match t, h1, h2, hl with
    | [], h1, _, _ => rw [n0] at h1; cases h1
    | [c], h1, h2, _ =>
      simp [matchS, ex3, ex4, mt, starM, litEl, starEl] at h1 h2
      omega
    | [c, d], h1, h2, _ =>
      simp [matchS, ex3, ex4, mt, starM, litEl, starEl] at h1 h2
      obtain ⟨_, rfl⟩ := h1
      have : d = 98 := by omega
      rw [this]
    | c :: d :: e :: r, _, _, hl => simp at hl
theorem ex6 : alts [117, 115, 98, 58, 118, 49, 42, 124, 117, 115, 98, 58, 119, 63] = some [[litEl 117, litEl 115, litEl 98, litEl 58, litEl 118, litEl 49, starEl], [litEl 117, litEl 115, litEl 98, litEl 58, litEl 119, anyEl]] := by
  simp [alts, go, pr, app, litEl, starEl, anyEl]
theorem ex7 : preS [[litEl 117, litEl 115, litEl 98, litEl 58, litEl 118, litEl 49, starEl], [litEl 117, litEl 115, litEl 98, litEl 58, litEl 119, anyEl]] = [117, 115, 98, 58] := by
  simp [preS, litPre, lcp, litEl, starEl, anyEl]

end Go.Proofs.Ytfihccfjboopiaa.G
