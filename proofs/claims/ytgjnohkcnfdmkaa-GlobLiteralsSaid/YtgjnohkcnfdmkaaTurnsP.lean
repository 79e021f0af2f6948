/-
  THE COMMON TEXT DOES NOT DEPEND ON THE ORDER: plain Lean.
-/
import Derived.Test.YtgjnohkcnfdmkaaLess
namespace Go.Proofs.Ytgjnohkcnfdmkaa

theorem pre_asymm : ∀ (p q : List Nat) (x y x' y' : Nat) (u v u' v' : List Nat), p ++ x :: u = q ++ y' :: v' → p ++ y :: v = q ++ x' :: u' → x < y → x' < y' → False
  | [], [], x, y, x', y', u, v, u', v', h1, h2, h3, h4 => by
    simp only [List.nil_append, List.cons.injEq] at h1 h2
    omega
  | [], c :: q, x, y, x', y', u, v, u', v', h1, h2, h3, h4 => by
    simp only [List.nil_append, List.cons_append, List.cons.injEq] at h1 h2
    omega
  | c :: p, [], x, y, x', y', u, v, u', v', h1, h2, h3, h4 => by
    simp only [List.nil_append, List.cons_append, List.cons.injEq] at h1 h2
    omega
  | c :: p, d :: q, x, y, x', y', u, v, u', v', h1, h2, h3, h4 => by
    simp only [List.cons_append, List.cons.injEq] at h1 h2
    exact pre_asymm p q x y x' y' u v u' v' h1.2 h2.2 h3 h4
theorem leqT_anti {t s : List Nat} (h : G.leqT t s) (k : G.leqT s t) : t = s := by
  rcases h with h | h | ⟨h1, p, x, y, u, v, rfl, rfl, h4⟩
  · rcases k with k | k | ⟨k, _⟩
    · omega
    · exact k.symm
    · omega
  · exact h
  · rcases k with k | k | ⟨_, p', x', y', u', v', e1, e2, k4⟩
    · omega
    · exact k.symm
    · exact (pre_asymm p p' x y x' y' u v u' v' e2 e1 h4 k4).elim
theorem common_unique {M N M' N' : List Nat → Bool} (hM : ∀ s, (M s = true ∧ N s = true) ↔ (M' s = true ∧ N' s = true)) {r r' : Option (List Nat)} (h : G.IsCommon M N r) (h' : G.IsCommon M' N' r') : r = r' := by
  cases r with
  | none =>
    cases r' with
    | none => rfl
    | some t =>
      have := h'.2 t rfl
      exact (h.1 rfl t ((hM t).2 ⟨this.1, this.2.1⟩)).elim
  | some t =>
    have h1 := h.2 t rfl
    cases r' with
    | none => exact (h'.1 rfl t ((hM t).1 ⟨h1.1, h1.2.1⟩)).elim
    | some u =>
      have h2 := h'.2 u rfl
      have e1 := (hM u).2 ⟨h2.1, h2.2.1⟩
      have e2 := (hM t).1 ⟨h1.1, h1.2.1⟩
      rw [leqT_anti (h1.2.2 u e1.1 e1.2) (h2.2.2 t e2.1 e2.2)]
theorem pair_eq {s u : List Nat} {ok is : Bool} (h : (if ok then some s else none) = (if is then some u else none)) (h1 : ok = false → s = []) (h2 : is = false → u = []) : s = u ∧ ok = is := by
  cases ok <;> cases is
  · exact ⟨(h1 rfl).trans (h2 rfl).symm, rfl⟩
  · cases h
  · cases h
  · cases h; exact ⟨rfl, rfl⟩
theorem turn_of {p q s u : List Nat} {ok is : Bool} {e f : Int} (h : ComIs p q s ok e) (k : ComIs q p u is f) : s = u ∧ ok = is ∧ (e = 0 ↔ f = 0) := by
  by_cases hp : errS p = 0
  · by_cases hq : errS q = 0
    · obtain ⟨a1, a2, a3⟩ := h.2.2 hp hq
      obtain ⟨b1, b2, b3⟩ := k.2.2 hq hp
      obtain ⟨c1, c2⟩ := pair_eq (common_unique (fun s => And.comm) a3 b3) a2 b2
      exact ⟨c1, c2, by rw [a1, b1]⟩
    · obtain ⟨a1, a2, a3⟩ := h.2.1 hp hq
      obtain ⟨b1, b2, b3⟩ := k.1 hq
      exact ⟨by rw [a1, b1], by rw [a2, b2], by rw [a3, b3]⟩
  · by_cases hq : errS q = 0
    · obtain ⟨a1, a2, a3⟩ := h.1 hp
      obtain ⟨b1, b2, b3⟩ := k.2.1 hq hp
      exact ⟨by rw [a1, b1], by rw [a2, b2], by rw [a3, b3]⟩
    · obtain ⟨a1, a2, a3⟩ := h.1 hp
      obtain ⟨b1, b2, b3⟩ := k.1 hq
      exact ⟨by rw [a1, b1], by rw [a2, b2], by rw [a3, b3]; exact ⟨fun h => absurd h hp, fun h => absurd h hq⟩⟩
theorem alts_star : G.alts [42] = some [[G.starEl]] := by
  simp [G.alts, G.go, G.pr, G.app, G.starEl]
theorem starM_empty : ∀ s : List Nat, G.starM (G.mt []) s = true
  | [] => rfl
  | c :: s => by
    rw [G.starM, starM_empty s]
    simp
theorem match_star {p s : List Nat} (h : G.matchS p s = true) : G.matchS [42] s = true := by
  have h1 : s.all G.pr = true := by
    unfold G.matchS at h
    split at h
    · cases h
    · rw [Bool.and_eq_true] at h; exact h.1
  unfold G.matchS
  rw [alts_star]
  show (s.all G.pr && ([[G.starEl]] : List (List G.El)).any fun a => G.mt a s) = true
  have : G.mt [G.starEl] s = true := starM_empty s
  rw [h1, List.any_cons, this]
  rfl
theorem self_of {p v w : List Nat} {has own : Bool} {g hh : Int} (h : ComIs p p v has g) (k : ComIs p [42] w own hh) : v = w ∧ has = own ∧ g = hh := by
  by_cases hp : errS p = 0
  · obtain ⟨a1, a2, a3⟩ := h.2.2 hp hp
    obtain ⟨b1, b2, b3⟩ := k.2.2 hp (errS_some alts_star)
    obtain ⟨c1, c2⟩ := pair_eq (common_unique (fun s => ⟨fun h => ⟨h.1, match_star h.1⟩, fun h => ⟨h.1, h.1⟩⟩) a3 b3) a2 b2
    exact ⟨c1, c2, by rw [a1, b1]⟩
  · obtain ⟨a1, a2, a3⟩ := h.1 hp
    obtain ⟨b1, b2, b3⟩ := k.1 hp
    exact ⟨by rw [a1, b1], by rw [a2, b2], by rw [a3, b3]⟩
theorem self_least {p v s : List Nat} {has : Bool} {g : Int} (h : ComIs p p v has g) (hm : G.matchS p s = true) : has = true ∧ G.leqT v s := by
  have hp : errS p = 0 := by
    cases ha : G.alts p with
    | none => unfold G.matchS at hm; rw [ha] at hm; cases hm
    | some l => exact errS_some ha
  obtain ⟨_, _, a3⟩ := h.2.2 hp hp
  cases has with
  | false => exact (a3.1 rfl s ⟨hm, hm⟩).elim
  | true => exact ⟨rfl, (a3.2 v rfl).2.2 s hm hm⟩

end Go.Proofs.Ytgjnohkcnfdmkaa
