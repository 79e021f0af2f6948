/-
  PLAIN LAW OF THE REFERENCE's COMMON TEXT, the third part: what 'closed' and the bytes make, step by step. No program in sight.
-/
import Derived.Test.YtfihccfjboopiaaRefComQ
namespace Go.Proofs.Ytfihccfjboopiaa.G

/-- Half of 'closed': l has been put; out is the list so far. -/
structure HalfP (P Q : List (List El)) (t : Nat) (Ts : List (List Nat)) (l out : List Ent) : Prop where
  sound : ∀ e ∈ out, SoundE P Q t e ∧ e.2 ∈ Ts
  low : ∀ e ∈ l, ∃ e' ∈ out, e'.1 = e.1 ∧ tle e'.2 e.2 = true
  sorted : Sorted out
  once : Once out
variable {P Q : List (List El)} {t : Nat} {Ts : List (List Nat)} {l out : List Ent} {z : Ent}
theorem HalfP.nil : HalfP P Q t Ts [] [] := ⟨fun _ h => (by cases h), fun _ h => (by cases h), List.Pairwise.nil, List.Pairwise.nil⟩
theorem HalfP.put (h : HalfP P Q t Ts l out) (hz : SoundE P Q t z) (ht : z.2 ∈ Ts) : HalfP P Q t Ts (l ++ [z]) (putP out z) := by
  have hp := put_put z h.once
  refine ⟨fun e he => ?_, fun e he => ?_, hp.sorted h.sorted, hp.once⟩
  · rcases hp.from_ e he with he | rfl
    · exact h.sound e he
    · exact ⟨hz, ht⟩
  · rcases List.mem_append.1 he with he | he
    · obtain ⟨e', he', h1, h2⟩ := h.low e he
      obtain ⟨e2, he2, h3, h4⟩ := hp.low e' (.inl he')
      exact ⟨e2, he2, h3.trans h1, tle_trans h4 h2⟩
    · simp only [List.mem_singleton] at he
      subst he
      exact hp.low e (.inr rfl)
theorem HalfP.more (h : HalfP P Q t Ts l out) (hz : SoundE P Q t z) (ht : z.2 ∈ Ts) : HalfP P Q t Ts l (putP out z) := by
  have := h.put hz ht
  exact ⟨this.sound, fun e he => this.low e (List.mem_append_left _ he), this.sorted, this.once⟩
theorem HalfP.len {N : Nat} (hP : ∀ a ∈ P, a.length ≤ N) (hQ : ∀ a ∈ Q, a.length ≤ N) (h : HalfP P Q t Ts l out) : out.length ≤ (univ P Q N).length :=
  once_len h.once fun e he => mem_univ hP hQ (h.sound e he).1.2.1
/-- The first n have no place behind them that would be better. -/
def DoneTo (P Q : List (List El)) (out : List Ent) (n : Nat) : Prop := ∀ m, m < n → ∀ e, out[m]? = some e → ∀ y ∈ skipsOf P Q e.1, betterP out (y, e.2) = false
theorem DoneTo.zero : DoneTo P Q out 0 := fun m hm => by omega
theorem DoneTo.step {n : Nat} {e : Ent} (h : DoneTo P Q out n) (he : out[n]? = some e) (h1 : starts (prOf P Q e.1).1 = false ∨ betterP out (skip1 e.1, e.2) = false) (h2 : starts (prOf P Q e.1).2 = false ∨ betterP out (skip2 e.1, e.2) = false) : DoneTo P Q out (n + 1) := fun m hm e' he' y hy => by
  by_cases hmn : m < n
  · exact h m hmn e' he' y hy
  · obtain rfl : m = n := by omega
    rw [he] at he'
    cases he'
    unfold skipsOf at hy
    rcases List.mem_append.1 hy with hy | hy
    · rcases h1 with h1 | h1
      · rw [h1] at hy; simp at hy
      · split at hy
        · simp at hy; rw [hy]; exact h1
        · cases hy
    · rcases h2 with h2 | h2
      · rw [h2] at hy; simp at hy
      · split at hy
        · simp at hy; rw [hy]; exact h2
        · cases hy
theorem HalfP.closed (h : HalfP P Q t Ts l out) (hd : DoneTo P Q out out.length) : ClosedP P Q t l out := by
  refine ⟨fun e he => (h.sound e he).1, h.low, fun e he y hy => ?_, h.sorted, h.once⟩
  obtain ⟨m, hm, em⟩ := List.getElem_of_mem he
  exact better_false (hd m hm e (by rw [List.getElem?_eq_getElem hm, em]) y hy)
theorem mem_skip1 {x : Pos} (h : starts (prOf P Q x).1 = true) : skip1 x ∈ skipsOf P Q x := by
  unfold skipsOf; rw [if_pos h]; simp
theorem mem_skip2 {x : Pos} (h : starts (prOf P Q x).2 = true) : skip2 x ∈ skipsOf P Q x := by
  unfold skipsOf; rw [if_pos h]; simp
theorem starts_at {l : List El} {i : Nat} {e : El} (h : l[i]? = some e) : starts (l.drop i) = e.star := by
  obtain ⟨hi, he⟩ := List.getElem?_eq_some_iff.1 h
  rw [List.drop_eq_getElem_cons hi, he]; rfl
theorem starts_end {l : List El} {i : Nat} (h : l.length ≤ i) : starts (l.drop i) = false := by
  rw [List.drop_eq_nil_of_le h]; rfl
theorem potM {U : List Pos} {p p' n : Nat} (h : p' < p) : p' * (U.length + 1) + U.length < p * (U.length + 1) + (U.length - n) := by
  have h1 : (p' + 1) * (U.length + 1) ≤ p * (U.length + 1) := Nat.mul_le_mul_right _ h
  rw [Nat.succ_mul] at h1
  omega

/-- The reference's step. -/
def stepK (a : List El) (i c : Nat) : Nat × Bool := match a[i]? with
  | none => (0, false)
  | some e => if e.star then (i, true) else (i + 1, e.set c)
theorem stepK_head (a : List El) (i c : Nat) : (stepK a i c).2 = headR (a.drop i) c := by
  unfold stepK
  cases h : a[i]? with
  | none => rw [List.drop_eq_nil_of_le (List.getElem?_eq_none_iff.1 h)]; rfl
  | some e =>
    obtain ⟨hi, he⟩ := List.getElem?_eq_some_iff.1 h
    rw [List.drop_eq_getElem_cons hi, he]
    simp only [headR]
    cases e.star <;> simp
theorem stepK_next {a : List El} {i c : Nat} (h : headR (a.drop i) c = true) : (stepK a i c).1 = if starts (a.drop i) then i else i + 1 := by
  unfold stepK
  cases ha : a[i]? with
  | none => rw [List.drop_eq_nil_of_le (List.getElem?_eq_none_iff.1 ha)] at h; cases h
  | some e =>
    rw [starts_at ha]
    by_cases hs : e.star = true
    · simp [hs]
    · simp [hs]

/-- What the bytes make of a level, as far as they have come: n places are done, of the next one the bytes below c. -/
structure NextTo (P Q : List (List El)) (t : Nat) (out seen : List Ent) (n c : Nat) (nxt : List Ent) : Prop where
  sound : ∀ e ∈ nxt, SoundE P Q (t + 1) e ∧ hasP seen e.1 = false
  low : ∀ m e, out[m]? = some e → ∀ d, pr d = true → (m < n ∨ (m = n ∧ d < c)) → goP P Q e.1 d = true → hasP seen (nextOf P Q e.1) = false → ∃ e' ∈ nxt, e'.1 = nextOf P Q e.1 ∧ tle e'.2 (e.2 ++ [d]) = true
  sorted : Sorted nxt
  once : Once nxt
variable {seen nxt : List Ent} {n c : Nat}
theorem NextTo.start : NextTo P Q t out seen 0 32 [] := ⟨fun _ h => (by cases h), fun m e _ d hd h _ _ => by
  unfold pr at hd
  simp only [Bool.and_eq_true, decide_eq_true_eq] at hd
  omega, List.Pairwise.nil, List.Pairwise.nil⟩
theorem NextTo.row (h : NextTo P Q t out seen n 127 nxt) : NextTo P Q t out seen (n + 1) 32 nxt := ⟨h.sound, fun m e he d hd hm => h.low m e he d hd (by
  unfold pr at hd
  simp only [Bool.and_eq_true, decide_eq_true_eq] at hd
  omega), h.sorted, h.once⟩
theorem NextTo.skip {e : Ent} (h : NextTo P Q t out seen n c nxt) (he : out[n]? = some e) (hno : goP P Q e.1 c = true → hasP seen (nextOf P Q e.1) = false → False) : NextTo P Q t out seen n (c + 1) nxt := ⟨h.sound, fun m e2 he2 d hd hm hg hs => by
  by_cases hk : m < n ∨ (m = n ∧ d < c)
  · exact h.low m e2 he2 d hd hk hg hs
  · obtain ⟨rfl, rfl⟩ : m = n ∧ d = c := by omega
    rw [he] at he2
    cases he2
    exact (hno hg hs).elim, h.sorted, h.once⟩
theorem NextTo.put {e : Ent} (h : NextTo P Q t out seen n c nxt) (he : out[n]? = some e) (hz : SoundE P Q (t + 1) (nextOf P Q e.1, e.2 ++ [c])) (hs : hasP seen (nextOf P Q e.1) = false) : NextTo P Q t out seen n (c + 1) (putP nxt (nextOf P Q e.1, e.2 ++ [c])) := by
  have hp := put_put (nextOf P Q e.1, e.2 ++ [c]) h.once
  refine ⟨fun x hx => ?_, fun m e2 he2 d hd hm hg hs => ?_, hp.sorted h.sorted, hp.once⟩
  · rcases hp.from_ x hx with hx | rfl
    · exact h.sound x hx
    · exact ⟨hz, hs⟩
  · by_cases hk : m < n ∨ (m = n ∧ d < c)
    · obtain ⟨e', he', h1, h2⟩ := h.low m e2 he2 d hd hk hg hs
      obtain ⟨e3, he3, h3, h4⟩ := hp.low e' (.inl he')
      exact ⟨e3, he3, h3.trans h1, tle_trans h4 h2⟩
    · obtain ⟨rfl, rfl⟩ : m = n ∧ d = c := by omega
      rw [he] at he2
      cases he2
      exact hp.low _ (.inr rfl)
theorem NextTo.len {N : Nat} (hP : ∀ a ∈ P, a.length ≤ N) (hQ : ∀ a ∈ Q, a.length ≤ N) (h : NextTo P Q t out seen n c nxt) : nxt.length ≤ (univ P Q N).length :=
  once_len h.once fun e he => mem_univ hP hQ (h.sound e he).1.2.1
theorem NextTo.whole (h : NextTo P Q t out seen out.length c nxt) : NextP P Q t out seen nxt := ⟨h.sound, fun e he d hd hg hs => by
  obtain ⟨m, hm, em⟩ := List.getElem_of_mem he
  exact h.low m e (by rw [List.getElem?_eq_getElem hm, em]) d hd (.inl hm) hg hs⟩

/-- What holds at the beginning of a level: t bytes have been read. -/
structure LevelP (P Q : List (List El)) (r : Option (List Nat)) (U : List Pos) (t : Nat) (now seen : List Ent) : Prop where
  sound : ∀ e ∈ now, SoundE P Q t e
  fresh : ∀ e ∈ now, hasP seen e.1 = false
  old : ∀ e ∈ seen, ∃ t', t' < t ∧ SoundE P Q t' e
  room : t + unseen U seen ≤ U.length
  hits : ∀ s, r = some s → t ≤ s.length ∧ Hits P Q s t now
def Ans (P Q : List (List El)) (r : Option (List Nat)) : Prop := (∀ s, r = some s → Least P Q s) ∧ (r = none → Nil P Q)

theorem LevelP.next {r : Option (List Nat)} {N : Nat} (hgp : GoodA P) (hgq : GoodA Q) (hP : ∀ a ∈ P, a.length ≤ N) (hQ : ∀ a ∈ Q, a.length ≤ N) (ha : Ans P Q r) {now : List Ent} (h : LevelP P Q r (univ P Q N) t now seen) (hne : now ≠ []) (hc : ClosedP P Q t now out) (hno : ∀ e ∈ out, endB P Q e.1 = false)
    (hn : NextP P Q t out (seen ++ out) nxt) : LevelP P Q r (univ P Q N) (t + 1) nxt (seen ++ out) ∧ unseen (univ P Q N) (seen ++ out) < unseen (univ P Q N) seen := by
  have hlt : unseen (univ P Q N) (seen ++ out) < unseen (univ P Q N) seen := by
    obtain ⟨e, l', rfl⟩ := List.exists_cons_of_ne_nil hne
    obtain ⟨e', he', h1, _⟩ := hc.low e (by simp)
    exact unseen_lt (mem_univ hP hQ (h.sound e (by simp)).2.1) (h.fresh e (by simp)) (hasP_iff.2 ⟨e', he', h1⟩)
  have hold : ∀ e ∈ seen ++ out, ∃ t', t' < t + 1 ∧ SoundE P Q t' e := fun e he => by
    rcases List.mem_append.1 he with he | he
    · obtain ⟨t', h1, h2⟩ := h.old e he
      exact ⟨t', by omega, h2⟩
    · exact ⟨t, by omega, hc.sound e he⟩
  refine ⟨⟨fun e he => (hn.sound e he).1, fun e he => (hn.sound e he).2, hold, by have := h.room; omega, fun s hs => ?_⟩, hlt⟩
  obtain ⟨h1, h2⟩ := h.hits s hs
  exact next_hits hgp hgq (ha.1 s hs) h1 hc h2 hno (fun e he => by
    obtain ⟨t', h3, h4⟩ := hold e he
    exact ⟨t', by omega, h4⟩) hn
theorem LevelP.none {r : Option (List Nat)} {U : List Pos} (h : LevelP P Q r U t [] seen) : r = none := by
  cases r with
  | none => rfl
  | some s =>
    obtain ⟨_, e, he, _⟩ := h.hits s rfl
    cases he
theorem LevelP.found {r : Option (List Nat)} {U : List Pos} (hgp : GoodA P) (ha : Ans P Q r) {now : List Ent} (h : LevelP P Q r U t now seen) (hc : ClosedP P Q t now out) {n : Nat} {e : Ent} (hn : out[n]? = some e) (hb : endB P Q e.1 = true)
    (hno : ∀ (m : Nat) (x : Ent), m < n → out[m]? = some x → endB P Q x.1 = false) : r = some e.2 := by
  cases r with
  | none =>
    have := no_end (ha.2 rfl) (hc.sound e (List.mem_of_getElem? hn))
    rw [hb] at this
    cases this
  | some s =>
    obtain ⟨h1, h2⟩ := h.hits s rfl
    rw [first_end hgp (ha.1 s rfl) h1 hc h2 hn hb hno]
theorem LevelP.start {r : Option (List Nat)} {U : List Pos} (ha : Ans P Q r) {now : List Ent} (h1 : ∀ e ∈ now, ∃ a b, a < P.length ∧ b < Q.length ∧ e = (⟨a, 0, b, 0⟩, [])) (h2 : ∀ a b, a < P.length → b < Q.length → (⟨a, 0, b, 0⟩, []) ∈ now) : LevelP P Q r U 0 now [] := by
  refine ⟨fun e he => ?_, fun e _ => rfl, fun e he => (by cases he), by have := unseen_le U []; omega, fun s hs => ⟨Nat.zero_le _, hits_start (ha.1 s hs) h2⟩⟩
  obtain ⟨a, b, h3, h4, rfl⟩ := h1 e he
  exact sound_start h3 h4
theorem ans_of {r : Option (List Nat)} (hp : GoodA P) (hq : GoodA Q) (h : IsCommon (anyM P) (anyM Q) r) : Ans P Q r :=
  ⟨fun _ hs => least_of hp hq (hs ▸ h), fun hs => nil_of hp (hs ▸ h)⟩

/-! HOW MANY ALTERNATIVES AND ELEMENTS A PATTERN HAS. -/
def Fits (N K : Nat) (acc : List (List El)) (n : Nat) : Prop := acc ≠ [] ∧ acc.length + n ≤ N ∧ ∀ a ∈ acc, a.length + n ≤ K
theorem Fits.mono {N K : Nat} {acc : List (List El)} {n m : Nat} (h : Fits N K acc n) (hm : m ≤ n) : Fits N K acc m := ⟨h.1, by have := h.2.1; omega, fun a ha => by have := h.2.2 a ha; omega⟩
theorem fits_app {N K n : Nat} {x : El} : ∀ {acc : List (List El)}, Fits N K acc (n + 1) → Fits N K (app acc x) n
  | [], h => absurd rfl h.1
  | [l], h => by
    refine ⟨by simp [app], by have := h.2.1; simp [app] at this ⊢; omega, fun a ha => ?_⟩
    simp only [app, List.mem_singleton] at ha
    subst ha
    have := h.2.2 l (by simp)
    simp
    omega
  | l :: m :: r, h => by
    have ih := fits_app (N := N - 1) (K := K) (n := n) (x := x) (acc := m :: r) ⟨by simp, by have := h.2.1; simp at this ⊢; omega, fun a ha => h.2.2 a (List.mem_cons_of_mem _ ha)⟩
    refine ⟨by simp [app], by have := ih.2.1; have := h.2.1; simp [app] at *; omega, fun a ha => ?_⟩
    rw [app, List.mem_cons] at ha
    rcases ha with rfl | ha
    · have := h.2.2 a (by simp); omega
    · exact ih.2.2 a ha
theorem fits_bar {N K n : Nat} {acc : List (List El)} (h : Fits N K acc (n + 1)) : Fits N K (acc ++ [[]]) n := by
  refine ⟨by simp, by have := h.2.1; simp; omega, fun a ha => ?_⟩
  rcases List.mem_append.1 ha with ha | ha
  · have := h.2.2 a ha; omega
  · simp only [List.mem_singleton] at ha
    subst ha
    obtain ⟨b, l', rfl⟩ := List.exists_cons_of_ne_nil h.1
    have := h.2.2 b (by simp)
    simp; omega
theorem go_fits {N K : Nat} : ∀ (n : Nat) (st : St) (acc : List (List El)) (p : List Nat) (l : List (List El)), p.length ≤ n → Fits N K acc p.length → go st acc p = some l → l.length ≤ N ∧ ∀ a ∈ l, a.length ≤ K
  | n, .out, acc, [], l, _, ha, h => by
    have : go .out acc [] = some acc := by simp [go]
    rw [this] at h
    cases h
    exact ⟨by have := ha.2.1; simpa using this, fun a h => by have := ha.2.2 a h; simpa using this⟩
  | 0, st, acc, c :: r, l, hn, _, _ => by simp at hn
  | n + 1, .out, acc, c :: r, l, hn, ha, h => by
    have hl : r.length ≤ n := by simpa using hn
    by_cases h1 : c = 124
    · subst h1; rw [go_bar] at h; exact go_fits n .out _ r l hl (fits_bar ha) h
    · by_cases h2 : c = 42
      · subst h2; rw [go_star] at h; exact go_fits n .out _ r l hl (fits_app ha) h
      · by_cases h3 : c = 63
        · subst h3; rw [go_any] at h; exact go_fits n .out _ r l hl (fits_app ha) h
        · by_cases h4 : c = 91
          · subst h4
            cases r with
            | nil => simp [go] at h
            | cons d r' =>
              by_cases h5 : d = 33
              · subst h5
                have e : go .out acc (91 :: 33 :: r') = go (.set true true none') acc r' := by simp [go]
                rw [e] at h
                exact go_fits n _ _ r' l (by simp at hl; omega) (ha.mono (by simp; omega)) h
              · have e : go .out acc (91 :: d :: r') = go (.set false true none') acc (d :: r') := by simp [go, h5]
                rw [e] at h
                exact go_fits n _ _ (d :: r') l hl (ha.mono (by simp)) h
          · rw [go_lit _ _ _ h1 h2 h3 h4] at h
            exact go_fits n .out _ r l hl (fits_app ha) h
  | n, .set neg first s, acc, [], l, _, _, h => by rw [go_end] at h; cases h
  | n + 1, .set neg first s, acc, c :: r, l, hn, ha, h => by
    have hl : r.length ≤ n := by simpa using hn
    by_cases h1 : c = 93
    · subst h1
      rw [go_close] at h
      split at h
      · cases h
      · exact go_fits n .out _ r l hl (fits_app ha) h
    · obtain ⟨a, e, k, hm⟩ : ∃ a e k, mem (c :: r) = some (a, e, k) := by
        match r with
        | [] => exact ⟨_, _, _, rfl⟩
        | [d] => exact ⟨_, _, _, rfl⟩
        | d :: x :: r' =>
          rw [mem]
          split <;> exact ⟨_, _, _, rfl⟩
      rw [go_mem hm (by simpa using h1)] at h
      split at h
      · have hk := mem_pos hm
        exact go_fits n _ _ _ l (by simp; omega) (ha.mono (by simp)) h
      · cases h
termination_by n => n
theorem alts_fits {p : List Nat} {l : List (List El)} (h : alts p = some l) : l.length ≤ p.length + 1 ∧ ∀ a ∈ l, a.length ≤ p.length := by
  unfold alts at h
  split at h
  · refine go_fits _ .out [[]] p l (Nat.le_refl _) ⟨by simp, by simp; omega, fun a ha => ?_⟩ h
    simp only [List.mem_singleton] at ha
    subst ha
    simp
  · cases h

end Go.Proofs.Ytfihccfjboopiaa.G
