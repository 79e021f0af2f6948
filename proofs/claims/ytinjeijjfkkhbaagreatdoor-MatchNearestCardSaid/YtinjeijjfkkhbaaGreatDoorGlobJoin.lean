/-
  PLAIN LAW OF GLOBS: what becomes of the alternatives when one pattern stands behind another one. No program in sight.
-/
import Derived.Test.YtinjeijjfkkhbaaGreatDoorGlobMem
namespace Go.Proofs.YtinjeijjfkkhbaaGreatDoor.G

/-- The last alternative of the one goes on with the first of the other. -/
def join : List (List El) → List (List El) → List (List El)
  | [], B => B
  | [u], v :: B => (u ++ v) :: B
  | [u], [] => [u]
  | u :: x :: A, B => u :: join (x :: A) B

theorem join_app : ∀ (A : List (List El)) (B : List (List El)) (x : El), A ≠ [] → B ≠ [] → app (join A B) x = join A (app B x)
  | [], _, _, h, _ => absurd rfl h
  | [u], [], _, _, h => absurd rfl h
  | [u], [v], x, _, _ => by simp [join, app]
  | [u], v :: w :: B, x, _, _ => by simp [join, app]
  | u :: y :: A, B, x, _, hB => by
    have ih := join_app (y :: A) B x (by simp) hB
    have hne : ∃ z r, join (y :: A) B = z :: r := by
      cases A with
      | nil =>
        cases B with
        | nil => exact absurd rfl hB
        | cons v B => exact ⟨_, _, rfl⟩
      | cons a A => exact ⟨_, _, rfl⟩
    obtain ⟨z, r, hz⟩ := hne
    rw [join, join, ← ih, hz, app]
theorem join_bar : ∀ (A : List (List El)) (B : List (List El)), A ≠ [] → B ≠ [] → join A B ++ [[]] = join A (B ++ [[]])
  | [], _, h, _ => absurd rfl h
  | [u], [], _, h => absurd rfl h
  | [u], v :: B, _, _ => by simp [join]
  | u :: y :: A, B, _, hB => by
    have ih := join_bar (y :: A) B (by simp) hB
    rw [join, join, List.cons_append, ih]
theorem app_ne (A : List (List El)) (x : El) : app A x ≠ [] := by
  match A with
  | [] => simp [app]
  | [l] => simp [app]
  | l :: m :: r => simp [app]

/-- The reader of what stands behind other alternatives. -/
theorem go_join (A : List (List El)) (hA : A ≠ []) : ∀ (n : Nat) (st : St) (acc : List (List El)) (p : List Nat), p.length ≤ n → acc ≠ [] → go st (join A acc) p = (go st acc p).map (join A)
  | n, .out, acc, [], _, _ => by simp [go]
  | 0, st, acc, c :: r, hn, _ => by simp at hn
  | n + 1, .out, acc, c :: r, hn, ha => by
    have hl : r.length ≤ n := by simpa using hn
    by_cases h1 : c = 124
    · subst h1; rw [go_bar, go_bar, join_bar A acc hA ha]; exact go_join A hA n .out _ r hl (by simp)
    · by_cases h2 : c = 42
      · subst h2; rw [go_star, go_star, join_app A acc _ hA ha]; exact go_join A hA n .out _ r hl (app_ne _ _)
      · by_cases h3 : c = 63
        · subst h3; rw [go_any, go_any, join_app A acc _ hA ha]; exact go_join A hA n .out _ r hl (app_ne _ _)
        · by_cases h4 : c = 91
          · subst h4
            cases r with
            | nil => simp [go]
            | cons d r' =>
              by_cases h5 : d = 33
              · subst h5
                have e : ∀ acc, go .out acc (91 :: 33 :: r') = go (.set true true none') acc r' := fun acc => by simp [go]
                rw [e, e]
                exact go_join A hA n _ _ r' (by simp at hl; omega) ha
              · have e : ∀ acc, go .out acc (91 :: d :: r') = go (.set false true none') acc (d :: r') := fun acc => by simp [go, h5]
                rw [e, e]
                exact go_join A hA n _ _ (d :: r') hl ha
          · rw [go_lit _ _ _ h1 h2 h3 h4, go_lit _ _ _ h1 h2 h3 h4, join_app A acc _ hA ha]
            exact go_join A hA n .out _ r hl (app_ne _ _)
  | n, .set neg first s, acc, [], _, _ => by rw [go_end, go_end]; rfl
  | n + 1, .set neg first s, acc, c :: r, hn, ha => by
    have hl : r.length ≤ n := by simpa using hn
    by_cases h1 : c = 93
    · subst h1
      rw [go_close, go_close]
      split
      · rfl
      · rw [join_app A acc _ hA ha]; exact go_join A hA n .out _ r hl (app_ne _ _)
    · obtain ⟨a, e, k, hm⟩ : ∃ a e k, mem (c :: r) = some (a, e, k) := by
        match r with
        | [] => exact ⟨_, _, _, rfl⟩
        | [d] => exact ⟨_, _, _, rfl⟩
        | d :: x :: r' =>
          rw [mem]
          split <;> exact ⟨_, _, _, rfl⟩
      have hk := mem_pos hm
      rw [go_mem hm (by simpa using h1), go_mem hm (by simpa using h1)]
      split
      · exact go_join A hA n _ _ _ (by simp; omega) ha
      · rfl
termination_by n => n

theorem go_ne : ∀ (n : Nat) (st : St) (acc : List (List El)) (p : List Nat) (l : List (List El)), p.length ≤ n → acc ≠ [] → go st acc p = some l → l ≠ []
  | n, .out, acc, [], l, _, ha, h => by
    have : go .out acc [] = some acc := by simp [go]
    rw [this] at h
    cases h
    exact ha
  | 0, st, acc, c :: r, l, hn, _, _ => by simp at hn
  | n + 1, .out, acc, c :: r, l, hn, ha, h => by
    have hl : r.length ≤ n := by simpa using hn
    by_cases h1 : c = 124
    · subst h1; rw [go_bar] at h; exact go_ne n .out _ r l hl (by simp) h
    · by_cases h2 : c = 42
      · subst h2; rw [go_star] at h; exact go_ne n .out _ r l hl (app_ne _ _) h
      · by_cases h3 : c = 63
        · subst h3; rw [go_any] at h; exact go_ne n .out _ r l hl (app_ne _ _) h
        · by_cases h4 : c = 91
          · subst h4
            cases r with
            | nil => simp [go] at h
            | cons d r' =>
              by_cases h5 : d = 33
              · subst h5
                have e : go .out acc (91 :: 33 :: r') = go (.set true true none') acc r' := by simp [go]
                rw [e] at h
                exact go_ne n _ _ r' l (by simp at hl; omega) ha h
              · have e : go .out acc (91 :: d :: r') = go (.set false true none') acc (d :: r') := by simp [go, h5]
                rw [e] at h
                exact go_ne n _ _ (d :: r') l hl ha h
          · rw [go_lit _ _ _ h1 h2 h3 h4] at h
            exact go_ne n .out _ r l hl (app_ne _ _) h
  | n, .set neg first s, acc, [], l, _, _, h => by rw [go_end] at h; cases h
  | n + 1, .set neg first s, acc, c :: r, l, hn, ha, h => by
    have hl : r.length ≤ n := by simpa using hn
    by_cases h1 : c = 93
    · subst h1
      rw [go_close] at h
      split at h
      · cases h
      · exact go_ne n .out _ r l hl (app_ne _ _) h
    · obtain ⟨a, e, k, hm⟩ : ∃ a e k, mem (c :: r) = some (a, e, k) := by
        match r with
        | [] => exact ⟨_, _, _, rfl⟩
        | [d] => exact ⟨_, _, _, rfl⟩
        | d :: x :: r' =>
          rw [mem]
          split <;> exact ⟨_, _, _, rfl⟩
      have hk := mem_pos hm
      rw [go_mem hm (by simpa using h1)] at h
      split at h
      · exact go_ne n _ _ _ l (by simp; omega) ha h
      · cases h
termination_by n => n

/-- The member that begins here is the same whatever stands behind, if the set is closed. -/
theorem mem_more {c : Nat} {r q : List Nat} {neg first : Bool} {s : Nat → Bool} {acc l : List (List El)} (hc : c ≠ 93) (h : go (.set neg first s) acc (c :: r) = some l) : mem (c :: r ++ q) = mem (c :: r) := by
  match r, h with
  | [], h => 
    rw [go_mem (c := c) (e := c) (n := 1) rfl (by simpa using hc)] at h
    rw [if_pos (Nat.le_refl _)] at h
    simp only [List.drop_succ_cons, List.drop_zero] at h
    rw [go_end] at h; cases h
  | [d], h =>
    have hd : d = 93 := by
      rcases Decidable.em (d = 93) with hd | hd
      · exact hd
      · rw [go_mem (c := c) (e := c) (n := 1) rfl (by simpa using hc), if_pos (Nat.le_refl _)] at h
        simp only [List.drop_succ_cons, List.drop_zero] at h
        rw [go_mem (c := d) (e := d) (n := 1) rfl (by simpa using hd), if_pos (Nat.le_refl _)] at h
        simp only [List.drop_succ_cons, List.drop_zero] at h
        rw [go_end] at h; cases h
    subst hd
    cases q with
    | nil => rfl
    | cons x q =>
      show mem (c :: 93 :: x :: q) = mem [c, 93]
      simp [mem]
  | d :: e :: r, _ => rfl

/-- A pattern that has been read to its end goes on with what stands behind it. -/
theorem go_append : ∀ (n : Nat) (st : St) (acc : List (List El)) (p q : List Nat) (l : List (List El)), p.length ≤ n → go st acc p = some l → go st acc (p ++ q) = go .out l q
  | n, .out, acc, [], q, l, _, h => by
    have : go .out acc [] = some acc := by simp [go]
    rw [this] at h
    cases h
    rfl
  | 0, st, acc, c :: r, q, l, hn, _ => by simp at hn
  | n + 1, .out, acc, c :: r, q, l, hn, h => by
    have hl : r.length ≤ n := by simpa using hn
    rw [List.cons_append]
    by_cases h1 : c = 124
    · subst h1; rw [go_bar] at h ⊢; exact go_append n .out _ r q l hl h
    · by_cases h2 : c = 42
      · subst h2; rw [go_star] at h ⊢; exact go_append n .out _ r q l hl h
      · by_cases h3 : c = 63
        · subst h3; rw [go_any] at h ⊢; exact go_append n .out _ r q l hl h
        · by_cases h4 : c = 91
          · subst h4
            cases r with
            | nil => simp [go] at h
            | cons d r' =>
              rw [List.cons_append]
              by_cases h5 : d = 33
              · subst h5
                have e : ∀ x, go .out acc (91 :: 33 :: x) = go (.set true true none') acc x := fun x => by simp [go]
                rw [e] at h ⊢
                exact go_append n _ _ r' q l (by simp at hl; omega) h
              · have e : ∀ x, go .out acc (91 :: d :: x) = go (.set false true none') acc (d :: x) := fun x => by simp [go, h5]
                rw [e] at h ⊢
                exact go_append n _ _ (d :: r') q l hl h
          · rw [go_lit _ _ _ h1 h2 h3 h4] at h ⊢
            exact go_append n .out _ r q l hl h
  | n, .set neg first s, acc, [], q, l, _, h => by rw [go_end] at h; cases h
  | n + 1, .set neg first s, acc, c :: r, q, l, hn, h => by
    have hl : r.length ≤ n := by simpa using hn
    by_cases h1 : c = 93
    · subst h1
      rw [List.cons_append]
      rw [go_close] at h ⊢
      split at h
      · cases h
      · rename_i hf
        rw [if_neg hf]
        exact go_append n .out _ r q l hl h
    · obtain ⟨a, e, k, hm⟩ : ∃ a e k, mem (c :: r) = some (a, e, k) := by
        match r with
        | [] => exact ⟨_, _, _, rfl⟩
        | [d] => exact ⟨_, _, _, rfl⟩
        | d :: x :: r' =>
          rw [mem]
          split <;> exact ⟨_, _, _, rfl⟩
      have hk := mem_pos hm
      have hkl : k ≤ (c :: r).length := by
        match r, hm with
        | [], hm => simp [mem] at hm; simp; omega
        | [d], hm => simp [mem] at hm; simp; omega
        | d :: x :: r', hm =>
          rw [mem] at hm
          split at hm
          · simp at hm; simp; omega
          · simp at hm; simp; omega
      have hm2 := mem_more (q := q) h1 h
      rw [hm] at hm2
      rw [go_mem hm (by simpa using h1)] at h
      rw [List.cons_append] at hm2 ⊢
      rw [go_mem hm2 (by simpa using h1)]
      split at h
      · rename_i hae
        rw [if_pos hae]
        have : (c :: (r ++ q)).drop k = (c :: r).drop k ++ q := by
          rw [← List.cons_append, List.drop_append_of_le_length hkl]
        rw [this]
        exact go_append n _ _ _ q l (by simp; omega) h
      · cases h
termination_by n => n

/-- Two patterns with a bar between them. -/
theorem go_or {p q : List Nat} {P Q : List (List El)} (hp : go .out [[]] p = some P) (hq : go .out [[]] q = some Q) : go .out [[]] (p ++ 124 :: q) = some (P ++ Q) := by
  rw [go_append _ .out _ p _ P (Nat.le_refl _) hp, go_bar]
  have e : ∀ A B : List (List El), B ≠ [] → join (A ++ [[]]) B = A ++ B := fun A => by
    induction A with
    | nil => intro B hB; cases B with
      | nil => exact absurd rfl hB
      | cons v B => rfl
    | cons u A ih =>
      intro B hB
      cases A with
      | nil => 
        have := ih B hB
        simp only [List.nil_append] at this
        simp [join, this]
      | cons x A =>
        have := ih B hB
        simp only [List.cons_append] at this ⊢
        rw [join, this]
  have h1 := go_join (P ++ [[]]) (by simp) _ .out [[]] q (Nat.le_refl _) (by simp)
  rw [e P [[]] (by simp)] at h1
  rw [h1, hq]
  simp only [Option.map_some]
  rw [e P Q (go_ne _ .out _ q Q (Nat.le_refl _) (by simp) hq)]
/-- Two patterns one behind the other. -/
theorem go_and {p q : List Nat} {P Q : List (List El)} (hp : go .out [[]] p = some P) (hq : go .out [[]] q = some Q) : go .out [[]] (p ++ q) = some (join P Q) := by
  have hP := go_ne _ .out _ p P (Nat.le_refl _) (by simp) hp
  rw [go_append _ .out _ p _ P (Nat.le_refl _) hp]
  have e : ∀ A : List (List El), A ≠ [] → join A [[]] = A := fun A => by
    induction A with
    | nil => intro h; exact absurd rfl h
    | cons u A ih =>
      intro _
      cases A with
      | nil => simp [join]
      | cons x A => rw [join, ih (by simp)]
  have h1 := go_join P hP _ .out [[]] q (Nat.le_refl _) (by simp)
  rw [e P hP] at h1
  rw [h1, hq]
  rfl

theorem alts_all {p : List Nat} {P : List (List El)} (h : alts p = some P) : p.length ≤ 256 ∧ p.all pr = true ∧ go .out [[]] p = some P := by
  unfold alts at h
  split at h
  · rename_i hp
    exact ⟨hp.1, hp.2, h⟩
  · cases h

theorem match_or {p q s : List Nat} (hp : (alts p).isSome = true) (hq : (alts q).isSome = true) (hl : p.length + q.length ≤ 255) : matchS (p ++ 124 :: q) s = (matchS p s || matchS q s) := by
  obtain ⟨P, hP⟩ := Option.isSome_iff_exists.1 hp
  obtain ⟨Q, hQ⟩ := Option.isSome_iff_exists.1 hq
  obtain ⟨_, p2, p3⟩ := alts_all hP
  obtain ⟨_, q2, q3⟩ := alts_all hQ
  have h : alts (p ++ 124 :: q) = some (P ++ Q) := by
    unfold alts
    rw [if_pos ⟨by simp; omega, by rw [List.all_append, List.all_cons, p2, q2]; rfl⟩]
    exact go_or p3 q3
  unfold matchS
  rw [h, hP, hQ]
  simp only [List.any_append]
  cases s.all pr <;> simp

theorem starM_append {f g h : List Nat → Bool} (H : ∀ s, h s = true ↔ ∃ i, i ≤ s.length ∧ f (s.take i) = true ∧ g (s.drop i) = true) (s : List Nat) :
    starM h s = true ↔ ∃ i, i ≤ s.length ∧ starM f (s.take i) = true ∧ g (s.drop i) = true := by
  rw [starM_iff]
  constructor
  · rintro ⟨j, hj, h1⟩
    obtain ⟨i, hi, h2, h3⟩ := (H _).1 h1
    simp only [List.length_drop] at hi
    refine ⟨j + i, by omega, (starM_iff _ _).2 ⟨j, by simp; omega, ?_⟩, by rw [List.drop_drop] at h3; exact h3⟩
    rw [List.drop_take, show j + i - j = i from by omega]
    exact h2
  · rintro ⟨i, hi, h1, h2⟩
    obtain ⟨j, hj, h3⟩ := (starM_iff _ _).1 h1
    simp only [List.length_take] at hj
    refine ⟨j, by omega, (H _).2 ⟨i - j, by simp; omega, ?_, ?_⟩⟩
    · rw [List.drop_take] at h3; exact h3
    · rw [List.drop_drop, show j + (i - j) = i from by omega]; exact h2
theorem mt_append : ∀ (a b : List El) (s : List Nat), mt (a ++ b) s = true ↔ ∃ i, i ≤ s.length ∧ mt a (s.take i) = true ∧ mt b (s.drop i) = true
  | [], b, s => by
    constructor
    · intro h; exact ⟨0, by simp, by simp [mt], by simpa using h⟩
    · rintro ⟨i, hi, h1, h2⟩
      simp only [mt, List.isEmpty_iff, List.take_eq_nil_iff] at h1
      rcases h1 with rfl | rfl
      · simpa using h2
      · simpa using h2
  | e :: a, b, s => by
    have ih := mt_append a b
    rw [List.cons_append]
    by_cases he : e.star = true
    · have e1 : ∀ (l : List El) (s : List Nat), mt (e :: l) s = starM (mt l) s := fun l s => by simp [mt, he]
      rw [e1, starM_append ih]
      simp only [e1]
    · have he' : e.star = false := by simpa using he
      cases s with
      | nil =>
        rw [mt_one_nil he']
        constructor
        · intro h; cases h
        · rintro ⟨i, hi, h1, _⟩
          rw [List.take_nil, mt_one_nil he'] at h1
          cases h1
      | cons c s =>
        rw [mt_one he', Bool.and_eq_true, ih]
        constructor
        · rintro ⟨hc, i, hi, h1, h2⟩
          refine ⟨i + 1, by simpa using hi, ?_, by simpa using h2⟩
          rw [List.take_succ_cons, mt_one he', hc]
          simpa using h1
        · rintro ⟨i, hi, h1, h2⟩
          cases i with
          | zero => rw [List.take_zero, mt_one_nil he'] at h1; cases h1
          | succ i =>
            rw [List.take_succ_cons, mt_one he', Bool.and_eq_true] at h1
            exact ⟨h1.1, i, by simpa using hi, h1.2, by simpa using h2⟩

theorem app_len : ∀ (A : List (List El)) (x : El), A ≠ [] → (app A x).length = A.length
  | [], _, h => absurd rfl h
  | [l], _, _ => rfl
  | l :: m :: r, x, _ => by rw [app, List.length_cons, app_len (m :: r) x (by simp)]; rfl
/-- Without a bar there is one alternative. -/
theorem go_one : ∀ (n : Nat) (st : St) (acc : List (List El)) (p : List Nat) (l : List (List El)), p.length ≤ n → acc.length = 1 → (∀ c, c ∈ p → c ≠ 124) → go st acc p = some l → l.length = 1
  | n, .out, acc, [], l, _, ha, _, h => by
    have : go .out acc [] = some acc := by simp [go]
    rw [this] at h
    cases h
    exact ha
  | 0, st, acc, c :: r, l, hn, _, _, _ => by simp at hn
  | n + 1, .out, acc, c :: r, l, hn, ha, hp, h => by
    have hl : r.length ≤ n := by simpa using hn
    have hr : ∀ d, d ∈ r → d ≠ 124 := fun d hd => hp d (List.mem_cons_of_mem _ hd)
    have h1 : c ≠ 124 := hp c (by simp)
    have hal : ∀ x, (app acc x).length = 1 := fun x => by rw [app_len acc x (by intro e; rw [e] at ha; cases ha)]; exact ha
    by_cases h2 : c = 42
    · subst h2; rw [go_star] at h; exact go_one n .out _ r l hl (hal _) hr h
    · by_cases h3 : c = 63
      · subst h3; rw [go_any] at h; exact go_one n .out _ r l hl (hal _) hr h
      · by_cases h4 : c = 91
        · subst h4
          cases r with
          | nil => simp [go] at h
          | cons d r' =>
            by_cases h5 : d = 33
            · subst h5
              have e : go .out acc (91 :: 33 :: r') = go (.set true true none') acc r' := by simp [go]
              rw [e] at h
              exact go_one n _ _ r' l (by simp at hl; omega) ha (fun d hd => hr d (List.mem_cons_of_mem _ hd)) h
            · have e : go .out acc (91 :: d :: r') = go (.set false true none') acc (d :: r') := by simp [go, h5]
              rw [e] at h
              exact go_one n _ _ (d :: r') l hl ha hr h
        · rw [go_lit _ _ _ h1 h2 h3 h4] at h
          exact go_one n .out _ r l hl (hal _) hr h
  | n, .set neg first s, acc, [], l, _, _, _, h => by rw [go_end] at h; cases h
  | n + 1, .set neg first s, acc, c :: r, l, hn, ha, hp, h => by
    have hl : r.length ≤ n := by simpa using hn
    have hr : ∀ d, d ∈ r → d ≠ 124 := fun d hd => hp d (List.mem_cons_of_mem _ hd)
    by_cases h1 : c = 93
    · subst h1
      rw [go_close] at h
      split at h
      · cases h
      · exact go_one n .out _ r l hl (by rw [app_len acc _ (by intro e; rw [e] at ha; cases ha)]; exact ha) hr h
    · obtain ⟨a, e, k, hm⟩ : ∃ a e k, mem (c :: r) = some (a, e, k) := by
        match r with
        | [] => exact ⟨_, _, _, rfl⟩
        | [d] => exact ⟨_, _, _, rfl⟩
        | d :: x :: r' =>
          rw [mem]
          split <;> exact ⟨_, _, _, rfl⟩
      have hk := mem_pos hm
      rw [go_mem hm (by simpa using h1)] at h
      split at h
      · exact go_one n _ _ _ l (by simp; omega) ha (fun d hd => hp d (List.mem_of_mem_drop hd)) h
      · cases h
termination_by n => n

theorem match_and {p q s : List Nat} (hp : (alts p).isSome = true) (hq : (alts q).isSome = true) (hl : p.length + q.length ≤ 256) (h1 : ∀ c, c ∈ p → c ≠ 124) (h2 : ∀ c, c ∈ q → c ≠ 124) :
    matchS (p ++ q) s = true ↔ ∃ i, i ≤ s.length ∧ matchS p (s.take i) = true ∧ matchS q (s.drop i) = true := by
  obtain ⟨P, hP⟩ := Option.isSome_iff_exists.1 hp
  obtain ⟨Q, hQ⟩ := Option.isSome_iff_exists.1 hq
  obtain ⟨_, p2, p3⟩ := alts_all hP
  obtain ⟨_, q2, q3⟩ := alts_all hQ
  obtain ⟨a, rfl⟩ := List.length_eq_one_iff.1 (go_one _ .out [[]] p P (Nat.le_refl _) rfl h1 p3)
  obtain ⟨b, rfl⟩ := List.length_eq_one_iff.1 (go_one _ .out [[]] q Q (Nat.le_refl _) rfl h2 q3)
  have h : alts (p ++ q) = some [a ++ b] := by
    unfold alts
    rw [if_pos ⟨by simp; omega, by rw [List.all_append, p2, q2]; rfl⟩]
    exact go_and p3 q3
  have e : ∀ {r : List Nat} {x : List El} (t : List Nat), alts r = some [x] → (matchS r t = true ↔ t.all pr = true ∧ mt x t = true) := fun t hr => by
    unfold matchS
    rw [hr]
    simp
  rw [e s h, mt_append]
  constructor
  · rintro ⟨hs, i, hi, ha, hb⟩
    exact ⟨i, hi, (e _ hP).2 ⟨List.all_eq_true.2 fun x hx => List.all_eq_true.1 hs x (List.mem_of_mem_take hx), ha⟩, (e _ hQ).2 ⟨List.all_eq_true.2 fun x hx => List.all_eq_true.1 hs x (List.mem_of_mem_drop hx), hb⟩⟩
  · rintro ⟨i, hi, ha, hb⟩
    have ha' := (e _ hP).1 ha
    have hb' := (e _ hQ).1 hb
    refine ⟨?_, i, hi, ha'.2, hb'.2⟩
    have := List.take_append_drop i s
    rw [← this, List.all_append, ha'.1, hb'.1]
    rfl

end Go.Proofs.YtinjeijjfkkhbaaGreatDoor.G
