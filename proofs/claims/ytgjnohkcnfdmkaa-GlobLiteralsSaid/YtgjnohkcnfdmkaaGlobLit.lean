/-
  THE BEGINNING OF A PATTERN'S TEXTS, and its only text: plain Lean, no program in sight.
-/
import Derived.Test.YtgjnohkcnfdmkaaGlobBegin
import Derived.Test.YtgjnohkcnfdmkaaGlobJoin
namespace Go.Proofs.Ytgjnohkcnfdmkaa.G

def Lit2 (e : El) : Prop := e.lit = 0 ∨ (pr e.lit = true ∧ e.star = false ∧ ∀ c, e.set c = decide (c = e.lit))
theorem alts_lit2 {p : List Nat} {l : List (List El)} (h : alts p = some l) : AllA Lit2 l :=
  alts_every (.inl rfl) (.inl rfl) (fun _ _ => .inl rfl) (fun c hc => .inr ⟨hc, rfl, fun d => rfl⟩) h
theorem mt_pre : ∀ (a : List El) (s : List Nat), (∀ e, e ∈ a → Lit2 e) → mt a s = true → litPre a <+: s
  | [], s, _, _ => by rw [litPre_nil]; exact List.nil_prefix
  | e :: a, s, h, hm => by
    by_cases h0 : e.lit = 0
    · rw [litPre_stop h0]; exact List.nil_prefix
    · rcases h e (by simp) with h1 | ⟨_, h2, h3⟩
      · exact absurd h1 h0
      · cases s with
        | nil => rw [mt_one_nil h2] at hm; cases hm
        | cons c s =>
          rw [mt_one h2, Bool.and_eq_true, h3, decide_eq_true_eq] at hm
          rw [litPre_go h0, hm.1]
          exact List.cons_prefix_cons.2 ⟨rfl, mt_pre a s (fun e he => h e (List.mem_cons_of_mem _ he)) hm.2⟩
theorem mt_lit : ∀ (a : List El) (s : List Nat), (∀ e, e ∈ a → Lit2 e) → (litPre a).length = a.length → (mt a s = true ↔ s = litPre a)
  | [], s, _, _ => by simp [mt, litPre_nil]
  | e :: a, s, h, hl => by
    by_cases h0 : e.lit = 0
    · rw [litPre_stop h0] at hl; simp at hl
    · rcases h e (by simp) with h1 | ⟨_, h2, h3⟩
      · exact absurd h1 h0
      · rw [litPre_go h0] at hl ⊢
        have ih := fun s => mt_lit a s (fun e he => h e (List.mem_cons_of_mem _ he)) (by simpa using hl)
        cases s with
        | nil => rw [mt_one_nil h2]; simp
        | cons c s =>
          rw [mt_one h2, Bool.and_eq_true, h3, decide_eq_true_eq, ih]
          simp
theorem litPre_pr : ∀ (a : List El), (∀ e, e ∈ a → Lit2 e) → (litPre a).all pr = true
  | [], _ => rfl
  | e :: a, h => by
    by_cases h0 : e.lit = 0
    · rw [litPre_stop h0]; rfl
    · rcases h e (by simp) with h1 | ⟨h2, _⟩
      · exact absurd h1 h0
      · rw [litPre_go h0, List.all_cons, h2, litPre_pr a (fun e he => h e (List.mem_cons_of_mem _ he))]; rfl

/-- The only text of a pattern. -/
def litS (p : List Nat) : Option (List Nat) := match alts p with
  | some [a] => if (litPre a).length = a.length then some (litPre a) else none
  | _ => none
theorem litS_none {p : List Nat} (h : alts p = none) : litS p = none := by unfold litS; rw [h]
theorem litS_one {p : List Nat} {a : List El} (h : alts p = some [a]) : litS p = if (litPre a).length = a.length then some (litPre a) else none := by unfold litS; rw [h]
theorem litS_two {p : List Nat} {a b : List El} {r : List (List El)} (h : alts p = some (a :: b :: r)) : litS p = none := by unfold litS; rw [h]

/-- Every text that is matched begins with the beginning. -/
theorem match_pre {p s : List Nat} {l : List (List El)} (h : alts p = some l) (hm : matchS p s = true) : preS l <+: s := by
  unfold matchS at hm
  rw [h] at hm
  simp only [Bool.and_eq_true, List.any_eq_true] at hm
  obtain ⟨_, a, ha, hm⟩ := hm
  exact (preS_pre ha).trans (mt_pre a s (alts_lit2 h a ha) hm)
/-- The only text is matched alone. -/
theorem match_lit {p s t : List Nat} (h : litS p = some t) : (matchS p s = true ↔ s = t) ∧ ∃ l, alts p = some l ∧ preS l = t := by
  unfold litS at h
  split at h
  · rename_i a ha
    split at h
    · rename_i hl
      cases h
      have h2 := alts_lit2 ha a (by simp)
      refine ⟨?_, [a], ha, rfl⟩
      unfold matchS
      rw [ha]
      simp only [List.any_cons, List.any_nil, Bool.or_false, Bool.and_eq_true]
      rw [mt_lit a s h2 hl]
      exact ⟨fun h => h.2, fun h => ⟨by rw [h]; exact litPre_pr a h2, h⟩⟩
    · cases h
  · cases h

end Go.Proofs.Ytgjnohkcnfdmkaa.G
