/-
  PLAIN LAW: the sets of places with which the reference reads a text answer whether the elements match it. No program in sight.
-/
import Derived.Test.YtgjnohkcnfdmkaaDoorGlobMatch
namespace Go.Proofs.YtgjnohkcnfdmkaaDoor.G

def starAt (l : List El) (i : Nat) : Bool := match l[i]? with
  | some e => e.star
  | none => false
def setAt (l : List El) (i c : Nat) : Bool := match l[i]? with
  | some e => !e.star && e.set c
  | none => false
theorem starAt_some {l : List El} {i : Nat} {e : El} (h : l[i]? = some e) : starAt l i = e.star := by simp [starAt, h]
theorem setAt_some {l : List El} {i c : Nat} {e : El} (h : l[i]? = some e) : setAt l i c = (!e.star && e.set c) := by simp [setAt, h]
theorem starAt_end {l : List El} {i : Nat} (h : l.length ≤ i) : starAt l i = false := by simp [starAt, List.getElem?_eq_none h]
theorem setAt_end {l : List El} {i c : Nat} (h : l.length ≤ i) : setAt l i c = false := by simp [setAt, List.getElem?_eq_none h]

/-- The places that follow without a byte. -/
def pl (l : List El) (f : Nat → Bool) : Nat → Bool
  | 0 => f 0
  | i + 1 => f (i + 1) || (pl l f i && starAt l i)
/-- The places one byte further. -/
def nx (l : List El) (f : Nat → Bool) (c : Nat) (j : Nat) : Bool := (f j && starAt l j) || (decide (0 < j) && f (j - 1) && setAt l (j - 1) c)

theorem pl_of {l : List El} {f : Nat → Bool} {i : Nat} (h : f i = true) : pl l f i = true := by
  cases i with
  | zero => exact h
  | succ i => simp [pl, h]
theorem pl_closed {l : List El} {f : Nat → Bool} {i : Nat} (h : pl l f i = true) (hs : starAt l i = true) : pl l f (i + 1) = true := by simp [pl, h, hs]

/-- What is open: one of the places goes on to match the text. -/
def Open (l : List El) (f : Nat → Bool) (t : List Nat) : Prop := ∃ i, i ≤ l.length ∧ f i = true ∧ mt (l.drop i) t = true

theorem starAt_get {l : List El} {i : Nat} (h : starAt l i = true) : ∃ e, l[i]? = some e ∧ e.star = true := by
  unfold starAt at h
  split at h
  · rename_i e he; exact ⟨e, he, h⟩
  · cases h
theorem setAt_get {l : List El} {i c : Nat} (h : setAt l i c = true) : ∃ e, l[i]? = some e ∧ e.star = false ∧ e.set c = true := by
  unfold setAt at h
  split at h
  · rename_i e he
    simp only [Bool.and_eq_true, Bool.not_eq_true'] at h
    exact ⟨e, he, h.1, h.2⟩
  · cases h

theorem open_pl {l : List El} {f : Nat → Bool} {t : List Nat} : Open l (pl l f) t ↔ Open l f t := by
  constructor
  · rintro ⟨i, hi, hp, hm⟩
    induction i with
    | zero => exact ⟨0, hi, hp, hm⟩
    | succ i ih =>
      simp only [pl, Bool.or_eq_true, Bool.and_eq_true] at hp
      rcases hp with hp | ⟨hp, hs⟩
      · exact ⟨i + 1, hi, hp, hm⟩
      · obtain ⟨e, he, hes⟩ := starAt_get hs
        refine ih (by omega) hp ?_
        rw [drop_of_get he, mt_star hes]
        exact ⟨0, Nat.zero_le _, by simpa using hm⟩
  · rintro ⟨i, hi, hp, hm⟩
    exact ⟨i, hi, pl_of hp, hm⟩

theorem open_nx {l : List El} {f : Nat → Bool} {c : Nat} {t : List Nat} (hc : ∀ i, f i = true → starAt l i = true → f (i + 1) = true) : Open l (nx l f c) t ↔ Open l f (c :: t) := by
  constructor
  · rintro ⟨j, hj, hp, hm⟩
    simp only [nx, Bool.or_eq_true, Bool.and_eq_true, decide_eq_true_eq] at hp
    rcases hp with ⟨hp, hs⟩ | ⟨⟨h0, hp⟩, hs⟩
    · obtain ⟨e, he, hes⟩ := starAt_get hs
      refine ⟨j, hj, hp, ?_⟩
      rw [drop_of_get he, mt_star hes] at hm ⊢
      obtain ⟨k, hk, hm⟩ := hm
      exact ⟨k + 1, by simpa using hk, by simpa using hm⟩
    · obtain ⟨e, he, hes, hec⟩ := setAt_get hs
      obtain ⟨i, rfl⟩ : ∃ i, j = i + 1 := ⟨j - 1, by omega⟩
      simp only [Nat.add_sub_cancel] at hp he
      refine ⟨i, by omega, hp, ?_⟩
      rw [drop_of_get he, mt_one hes, hec, hm]
      rfl
  · rintro ⟨i, hi, hp, hm⟩
    obtain ⟨n, hn⟩ : ∃ n, n = l.length - i := ⟨_, rfl⟩
    induction n generalizing i with
    | zero =>
      rw [List.drop_eq_nil_of_le (by omega)] at hm
      simp [mt] at hm
    | succ n ih =>
      obtain ⟨e, he⟩ : ∃ e, l[i]? = some e := ⟨_, List.getElem?_eq_getElem (by omega)⟩
      rw [drop_of_get he] at hm
      cases hs : e.star with
      | true =>
        have hsa : starAt l i = true := by rw [starAt_some he, hs]
        rw [mt_star hs] at hm
        obtain ⟨k, hk, hm⟩ := hm
        cases k with
        | zero => exact ih (i + 1) (by omega) (hc i hp hsa) (by simpa using hm) (by omega)
        | succ k =>
          refine ⟨i, hi, by simp [nx, hp, hsa], ?_⟩
          rw [drop_of_get he, mt_star hs]
          exact ⟨k, by simpa using hk, by simpa using hm⟩
      | false =>
        rw [mt_one hs, Bool.and_eq_true] at hm
        refine ⟨i + 1, by omega, ?_, hm.2⟩
        simp [nx, hp, setAt_some he, hs, hm.1]

/-- The places behind k bytes. -/
def placesAt (l : List El) : List Nat → Nat → Bool
  | [] => pl l (fun i => decide (i = 0))
  | c :: r => pl l (nx l (placesAt l r) c)

theorem placesAt_closed (l : List El) (r : List Nat) (i : Nat) (h : placesAt l r i = true) (hs : starAt l i = true) : placesAt l r (i + 1) = true := by
  cases r with
  | nil => exact pl_closed h hs
  | cons c r => exact pl_closed h hs

theorem open_placesAt (l : List El) : ∀ (r t : List Nat), Open l (placesAt l r) t ↔ mt l (r.reverse ++ t) = true
  | [], t => by
    rw [placesAt, open_pl]
    simp only [List.reverse_nil, List.nil_append]
    constructor
    · rintro ⟨i, hi, h0, hm⟩
      obtain rfl : i = 0 := by simpa using h0
      simpa using hm
    · intro h
      exact ⟨0, Nat.zero_le _, by simp, by simpa using h⟩
  | c :: r, t => by
    rw [placesAt, open_pl, open_nx (placesAt_closed l r), open_placesAt l r (c :: t)]
    simp

/-- Behind the whole text the last place tells. -/
theorem placesAt_end (l : List El) (s : List Nat) : placesAt l s.reverse l.length = mt l s := by
  have h := open_placesAt l s.reverse []
  rw [List.reverse_reverse, List.append_nil] at h
  rw [Bool.eq_iff_iff, ← h]
  constructor
  · intro hp
    exact ⟨l.length, Nat.le_refl _, hp, by simp [mt]⟩
  · rintro ⟨i, hi, hp, hm⟩
    obtain ⟨n, hn⟩ : ∃ n, n = l.length - i := ⟨_, rfl⟩
    induction n generalizing i with
    | zero =>
      obtain rfl : i = l.length := by omega
      exact hp
    | succ n ih =>
      obtain ⟨e, he⟩ : ∃ e, l[i]? = some e := ⟨_, List.getElem?_eq_getElem (by omega)⟩
      rw [drop_of_get he] at hm
      cases hs : e.star with
      | true =>
        rw [mt_star hs] at hm
        obtain ⟨k, hk, hm⟩ := hm
        have hk0 : k = 0 := by simpa using hk
        subst hk0
        exact ih (i + 1) (by omega) (placesAt_closed l _ i hp (by rw [starAt_some he, hs])) (by simpa using hm) (by omega)
      | false => rw [mt_one_nil hs] at hm; cases hm

/-- 'places' halfway. -/
def plTo (l : List El) (f : Nat → Bool) (i j : Nat) : Bool := if j ≤ i then pl l f j else f j
theorem plTo_step {l : List El} {f : Nat → Bool} {i : Nat} : plTo l f (i + 1) (i + 1) = (f (i + 1) || (plTo l f i i && starAt l i)) := by simp [plTo, pl]
theorem plTo_other {l : List El} {f : Nat → Bool} {i j : Nat} (h : j ≠ i + 1) : plTo l f (i + 1) j = plTo l f i j := by
  unfold plTo
  by_cases h1 : j ≤ i
  · rw [if_pos h1, if_pos (by omega)]
  · rw [if_neg h1, if_neg (by omega)]
theorem plTo_zero (l : List El) (f : Nat → Bool) : plTo l f 0 = f := by
  funext j
  unfold plTo
  by_cases h1 : j ≤ 0
  · obtain rfl : j = 0 := by omega
    simp [pl]
  · rw [if_neg h1]
/-- One byte further, halfway. -/
def nxTo (l : List El) (f : Nat → Bool) (c i j : Nat) : Bool := (decide (j < i) && (f j && starAt l j)) || (decide (0 < j) && decide (j ≤ i) && f (j - 1) && setAt l (j - 1) c)
theorem nxTo_zero (l : List El) (f : Nat → Bool) (c : Nat) : nxTo l f c 0 = fun _ => false := by
  funext j
  unfold nxTo
  by_cases h : 0 < j
  · simp [show ¬ j = 0 from by omega]
  · simp [h]
theorem nxTo_end {l : List El} {f : Nat → Bool} {c j : Nat} (h : j ≤ l.length) : nxTo l f c l.length j = nx l f c j := by
  unfold nxTo nx
  by_cases h1 : j < l.length
  · simp [h1, h]
  · obtain rfl : j = l.length := by omega
    simp [starAt_end (Nat.le_refl _)]

theorem nxTo_far {l : List El} {f : Nat → Bool} {c i j : Nat} (h1 : j ≠ i) (h2 : j ≠ i + 1) : nxTo l f c (i + 1) j = nxTo l f c i j := by
  unfold nxTo
  rw [show (decide (j < i + 1)) = decide (j < i) from by rw [Bool.eq_iff_iff, decide_eq_true_eq, decide_eq_true_eq]; omega,
    show (decide (j ≤ i + 1)) = decide (j ≤ i) from by rw [Bool.eq_iff_iff, decide_eq_true_eq, decide_eq_true_eq]; omega]
theorem nxTo_at (l : List El) (f : Nat → Bool) (c i : Nat) : nxTo l f c (i + 1) i = (nxTo l f c i i || (f i && starAt l i)) := by
  unfold nxTo
  rw [decide_eq_true (show i < i + 1 by omega), decide_eq_false (show ¬ i < i by omega), decide_eq_true (show i ≤ i + 1 by omega), decide_eq_true (Nat.le_refl i), Bool.true_and, Bool.false_and, Bool.false_or, Bool.or_comm]
theorem nxTo_next (l : List El) (f : Nat → Bool) (c i : Nat) : nxTo l f c (i + 1) (i + 1) = (f i && setAt l i c) := by
  simp [nxTo]
theorem nxTo_new (l : List El) (f : Nat → Bool) (c i : Nat) : nxTo l f c i (i + 1) = false := by
  simp [nxTo, Nat.not_succ_le_self, show ¬ i + 1 < i from by omega]
theorem set_star {l : List El} {i c : Nat} (h : setAt l i c = true) : starAt l i = false := by
  obtain ⟨e, he, hs, _⟩ := setAt_get h
  rw [starAt_some he, hs]
/-- A star is kept. -/
theorem nxTo_star {l : List El} {f : Nat → Bool} {c i : Nat} (hf : f i = true) (hs : starAt l i = true) (j : Nat) : nxTo l f c (i + 1) j = if j = i then true else nxTo l f c i j := by
  by_cases h1 : j = i
  · subst h1
    rw [if_pos rfl, nxTo_at, hf, hs]
    simp
  · rw [if_neg h1]
    by_cases h2 : j = i + 1
    · subst h2
      rw [nxTo_next, nxTo_new]
      cases h : setAt l i c with
      | false => simp
      | true => rw [set_star h] at hs; cases hs
    · exact nxTo_far h1 h2
/-- A set is passed. -/
theorem nxTo_set {l : List El} {f : Nat → Bool} {c i : Nat} (hf : f i = true) (hs : setAt l i c = true) (j : Nat) : nxTo l f c (i + 1) j = if j = i + 1 then true else nxTo l f c i j := by
  by_cases h2 : j = i + 1
  · subst h2
    rw [if_pos rfl, nxTo_next, hf, hs]
    rfl
  · rw [if_neg h2]
    by_cases h1 : j = i
    · subst h1
      rw [nxTo_at, set_star hs]
      simp
    · exact nxTo_far h1 h2
/-- Nothing goes on. -/
theorem nxTo_no {l : List El} {f : Nat → Bool} {c i : Nat} (hs : (f i && starAt l i) = false) (hc : (f i && setAt l i c) = false) : nxTo l f c (i + 1) = nxTo l f c i := by
  funext j
  by_cases h2 : j = i + 1
  · subst h2
    rw [nxTo_next, nxTo_new, hc]
  · by_cases h1 : j = i
    · subst h1
      rw [nxTo_at, hs]
      simp
    · exact nxTo_far h1 h2

end Go.Proofs.YtgjnohkcnfdmkaaDoor.G
