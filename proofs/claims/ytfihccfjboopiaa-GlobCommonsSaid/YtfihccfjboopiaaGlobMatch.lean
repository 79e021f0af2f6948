/-
  PLAIN LAW: the greedy loop over stars answers whether the elements match (one step lemma a way of the loop); and the set of places answers the same. No program in sight.
-/
import Derived.Test.YtfihccfjboopiaaGlobPlain
namespace Go.Proofs.Ytfihccfjboopiaa.G

theorem starM_iff (f : List Nat → Bool) (s : List Nat) : starM f s = true ↔ ∃ j, j ≤ s.length ∧ f (s.drop j) = true := by
  induction s with
  | nil =>
    simp only [starM]
    exact ⟨fun h => ⟨0, by simp, by simpa using h⟩, fun ⟨j, _, h⟩ => by simpa using h⟩
  | cons c s ih =>
    simp only [starM, Bool.or_eq_true, ih]
    constructor
    · rintro (h | ⟨j, hj, h⟩)
      · exact ⟨0, by simp, by simpa using h⟩
      · exact ⟨j + 1, by simpa using hj, by simpa using h⟩
    · rintro ⟨j, hj, h⟩
      cases j with
      | zero => exact .inl (by simpa using h)
      | succ j => exact .inr ⟨j, by simpa using hj, by simpa using h⟩

theorem mt_star {e : El} (he : e.star = true) (l : List El) (s : List Nat) : mt (e :: l) s = true ↔ ∃ j, j ≤ s.length ∧ mt l (s.drop j) = true := by
  have h : mt (e :: l) s = starM (mt l) s := by simp [mt, he]
  rw [h]; exact starM_iff _ _

theorem mt_one {e : El} (he : e.star = false) (l : List El) (c : Nat) (s : List Nat) : mt (e :: l) (c :: s) = (e.set c && mt l s) := by
  simp [mt, he]
theorem mt_one_nil {e : El} (he : e.star = false) (l : List El) : mt (e :: l) [] = false := by
  simp [mt, he]

/-- A run of elements without a star eats as many bytes. -/
theorem seg : ∀ (n : Nat) (l : List El) (s : List Nat), (∀ k e, k < n → l[k]? = some e → e.star = false) → n ≤ l.length → mt l s = true → n ≤ s.length ∧ mt (l.drop n) (s.drop n) = true
  | 0, l, s, _, _, h => ⟨by omega, by simpa using h⟩
  | n + 1, l, s, hs, hn, h => by
    cases l with
    | nil => simp at hn
    | cons e l =>
      have he : e.star = false := hs 0 e (by omega) rfl
      cases s with
      | nil => rw [mt_one_nil he] at h; cases h
      | cons c s =>
        rw [mt_one he, Bool.and_eq_true] at h
        have := seg n l s (fun k x hk hx => hs (k + 1) x (by omega) (by simpa using hx)) (by simpa using hn) h.2
        exact ⟨by simpa using this.1, by simpa using this.2⟩

theorem drop_of_get {α : Type} {l : List α} {k : Nat} {e : α} (h : l[k]? = some e) : l.drop k = e :: l.drop (k + 1) := by
  obtain ⟨hk, rfl⟩ := List.getElem?_eq_some_iff.1 h
  exact List.drop_eq_getElem_cons hk

/-- WHAT HOLDS at the head of the loop of 'matches'. star: none where the program has -1. -/
def Greedy (l : List El) (s : List Nat) (at_ : Nat) (star : Option Nat) (from_ i : Nat) : Prop :=
  at_ ≤ l.length ∧ i ≤ s.length ∧
  (mt l s = true ↔ mt (l.drop at_) (s.drop i) = true ∨ ∃ st, star = some st ∧ ∃ j, from_ < j ∧ j ≤ s.length ∧ mt (l.drop (st + 1)) (s.drop j) = true) ∧
  ∀ st, star = some st → st < at_ ∧ from_ ≤ i ∧ at_ - (st + 1) = i - from_ ∧ ∀ k e, st < k → k < at_ → l[k]? = some e → e.star = false

theorem Greedy.start (l : List El) (s : List Nat) : Greedy l s 0 none 0 0 :=
  ⟨by omega, by omega, by simp, fun st h => by cases h⟩

theorem Greedy.older {l : List El} {s : List Nat} {at_ from_ i st : Nat} (h : Greedy l s at_ (some st) from_ i) {j : Nat} (hj : from_ < j) (hjs : j ≤ s.length) (hm : mt (l.drop (st + 1)) (s.drop j) = true) :
    ∃ j', i < j' ∧ j' ≤ s.length ∧ mt (l.drop at_) (s.drop j') = true := by
  obtain ⟨h1, h2, _, h4⟩ := h
  obtain ⟨a, b, c, d⟩ := h4 st rfl
  have := seg (at_ - (st + 1)) (l.drop (st + 1)) (s.drop j) (fun k e hk he => d (st + 1 + k) e (by omega) (by omega) (by simpa using he)) (by simp; omega) hm
  refine ⟨j + (at_ - (st + 1)), by omega, by have := this.1; simp at this; omega, ?_⟩
  have h5 := this.2
  rw [List.drop_drop, List.drop_drop] at h5
  rw [show st + 1 + (at_ - (st + 1)) = at_ from by omega] at h5
  exact h5

theorem Greedy.star {l : List El} {s : List Nat} {at_ : Nat} {star : Option Nat} {from_ i : Nat} (h : Greedy l s at_ star from_ i) {e : El} (he : l[at_]? = some e) (hs : e.star = true) :
    Greedy l s (at_ + 1) (some at_) i i := by
  have h' := h
  obtain ⟨h1, h2, h3, h4⟩ := h
  have hlt : at_ < l.length := (List.getElem?_eq_some_iff.1 he).1
  have hm : mt (l.drop at_) (s.drop i) = true ↔ ∃ j, i ≤ j ∧ j ≤ s.length ∧ mt (l.drop (at_ + 1)) (s.drop j) = true := by
    rw [drop_of_get he, mt_star hs]
    constructor
    · rintro ⟨j, hj, h⟩; exact ⟨i + j, by omega, by simp at hj; omega, by simpa using h⟩
    · rintro ⟨j, hj, hj', h⟩; exact ⟨j - i, by simp; omega, by rw [List.drop_drop, show i + (j - i) = j from by omega]; exact h⟩
  refine ⟨by omega, h2, ?_, fun st hst => by injection hst with hst; subst hst; exact ⟨by omega, by omega, by omega, fun k e hk hk' => by omega⟩⟩
  rw [h3]
  constructor
  · intro hh
    have : ∃ j, i ≤ j ∧ j ≤ s.length ∧ mt (l.drop (at_ + 1)) (s.drop j) = true := by
      rcases hh with hh | ⟨st, rfl, j, hj, hjs, hmj⟩
      · exact hm.1 hh
      · obtain ⟨j', a, b, c⟩ := h'.older hj hjs hmj
        rw [drop_of_get he, mt_star hs] at c
        obtain ⟨k, hk, c⟩ := c
        exact ⟨j' + k, by omega, by simp at hk; omega, by simpa using c⟩
    obtain ⟨j, a, b, c⟩ := this
    rcases Nat.eq_or_lt_of_le a with rfl | a
    · exact .inl c
    · exact .inr ⟨at_, rfl, j, a, b, c⟩
  · rintro (hh | ⟨st, hst, j, hj, hjs, hmj⟩)
    · exact .inl (hm.2 ⟨i, by omega, h2, hh⟩)
    · injection hst with hst; subst hst
      exact .inl (hm.2 ⟨j, by omega, hjs, hmj⟩)

theorem Greedy.byte {l : List El} {s : List Nat} {at_ : Nat} {star : Option Nat} {from_ i : Nat} (h : Greedy l s at_ star from_ i) {e : El} (he : l[at_]? = some e) (hs : e.star = false) {c : Nat} (hc : s[i]? = some c) (hset : e.set c = true) :
    Greedy l s (at_ + 1) star from_ (i + 1) := by
  obtain ⟨h1, h2, h3, h4⟩ := h
  have hlt : at_ < l.length := (List.getElem?_eq_some_iff.1 he).1
  have hlt' : i < s.length := (List.getElem?_eq_some_iff.1 hc).1
  refine ⟨by omega, by omega, ?_, fun st hst => ?_⟩
  · rw [h3, drop_of_get he, drop_of_get hc, mt_one hs, hset, Bool.true_and]
  · obtain ⟨a, b, c', d⟩ := h4 st hst
    refine ⟨by omega, by omega, by omega, fun k x hk hk' hx => ?_⟩
    rcases Nat.eq_or_lt_of_le (Nat.le_of_lt_succ hk') with rfl | hk'
    · rw [he] at hx; injection hx with hx; subst hx; exact hs
    · exact d k x hk hk' hx

/-- The elements do not match here. -/
theorem stuck {l : List El} {s : List Nat} {at_ i : Nat} (hi : i < s.length) (h : ∀ e, l[at_]? = some e → e.star = false ∧ ∀ c, s[i]? = some c → e.set c = false) : mt (l.drop at_) (s.drop i) = false := by
  obtain ⟨c, hc⟩ : ∃ c, s[i]? = some c := ⟨s[i], List.getElem?_eq_getElem hi⟩
  rw [drop_of_get hc]
  cases he : l[at_]? with
  | none => rw [List.drop_eq_nil_of_le (List.getElem?_eq_none_iff.1 he)]; rfl
  | some e =>
    obtain ⟨a, b⟩ := h e he
    rw [drop_of_get he, mt_one a, b c hc, Bool.false_and]

theorem Greedy.back {l : List El} {s : List Nat} {at_ st from_ i : Nat} (h : Greedy l s at_ (some st) from_ i) (hi : i < s.length) (hno : mt (l.drop at_) (s.drop i) = false) :
    Greedy l s (st + 1) (some st) (from_ + 1) (from_ + 1) := by
  obtain ⟨h1, h2, h3, h4⟩ := h
  obtain ⟨a, b, c, d⟩ := h4 st rfl
  refine ⟨by omega, by omega, ?_, fun st' hst => by injection hst with hst; subst hst; exact ⟨by omega, by omega, by omega, fun k e hk hk' => by omega⟩⟩
  rw [h3, hno]
  constructor
  · rintro (hh | ⟨st', hst, j, hj, hjs, hm⟩)
    · cases hh
    · injection hst with hst; subst hst
      rcases Nat.eq_or_lt_of_le hj with rfl | hj
      · exact .inl hm
      · exact .inr ⟨st, rfl, j, hj, hjs, hm⟩
  · rintro (hh | ⟨st', hst, j, hj, hjs, hm⟩)
    · exact .inr ⟨st, rfl, from_ + 1, by omega, by omega, hh⟩
    · injection hst with hst; subst hst
      exact .inr ⟨st, rfl, j, by omega, hjs, hm⟩

theorem Greedy.no {l : List El} {s : List Nat} {at_ from_ i : Nat} (h : Greedy l s at_ none from_ i) (hno : mt (l.drop at_) (s.drop i) = false) : mt l s = false := by
  obtain ⟨_, _, h3, _⟩ := h
  cases hm : mt l s with
  | false => rfl
  | true =>
    rcases h3.1 hm with h | ⟨st, h, _⟩
    · rw [hno] at h; cases h
    · cases h

/-- At the end of the text: whether what is left is all stars. -/
theorem Greedy.done {l : List El} {s : List Nat} {at_ : Nat} {star : Option Nat} {from_ : Nat} (h : Greedy l s at_ star from_ s.length) : mt l s = mt (l.drop at_) [] := by
  have h' := h
  obtain ⟨h1, h2, h3, h4⟩ := h
  rw [Bool.eq_iff_iff, h3, List.drop_length]
  constructor
  · rintro (h | ⟨st, rfl, j, hj, hjs, hm⟩)
    · exact h
    · obtain ⟨j', a, b, _⟩ := h'.older hj hjs hm
      omega
  · exact .inl

theorem mt_nil_star {l : List El} {k : Nat} {e : El} (he : l[k]? = some e) (hs : e.star = true) : mt (l.drop k) [] = mt (l.drop (k + 1)) [] := by
  rw [drop_of_get he]; simp [mt, hs, starM]
theorem mt_nil_end {l : List El} {k : Nat} (hk : k ≤ l.length) (h : ∀ e, l[k]? = some e → e.star = false) : mt (l.drop k) [] = decide (k = l.length) := by
  cases he : l[k]? with
  | none =>
    have := List.getElem?_eq_none_iff.1 he
    rw [List.drop_eq_nil_of_le this]
    simp [mt]; omega
  | some e =>
    have := (List.getElem?_eq_some_iff.1 he).1
    rw [drop_of_get he, mt_one_nil (h e he)]
    symm; simp; omega

/-- A number that every step of the greedy loop lowers. -/
def gmu (L S st from_ i : Nat) : Nat := ((L + 1 - st) * (S + 2) + (S + 1 - from_)) * (S + 2) + (S + 1 - i)

theorem lex_lt {a b c d K : Nat} (h : a < b) (hc : c < K) : a * K + c < b * K + d := by
  have h1 : (a + 1) * K ≤ b * K := Nat.mul_le_mul_right K h
  rw [Nat.add_mul, Nat.one_mul] at h1
  omega

theorem gmu_star {L S at_ st from_ i : Nat} (h1 : st ≤ at_) (h2 : at_ < L) : gmu L S (at_ + 1) i i < gmu L S st from_ i := by
  unfold gmu
  exact lex_lt (lex_lt (by omega) (by omega)) (by omega)
theorem gmu_byte (L st from_ : Nat) {S i : Nat} (h : i < S) : gmu L S st from_ (i + 1) < gmu L S st from_ i := by
  unfold gmu; omega
theorem gmu_back (L st : Nat) {S from_ i : Nat} (h1 : from_ ≤ i) (h2 : i < S) : gmu L S st (from_ + 1) (from_ + 1) < gmu L S st from_ i := by
  unfold gmu
  exact lex_lt (Nat.add_lt_add_left (by omega) _) (by omega)

end Go.Proofs.Ytfihccfjboopiaa.G
