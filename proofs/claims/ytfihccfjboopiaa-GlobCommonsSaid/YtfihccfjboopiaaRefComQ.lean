/-
  PLAIN LAW OF THE REFERENCE's COMMON TEXT, the second part: a level of places with texts; what the least common text leaves on each level. No program in sight.
-/
import Derived.Test.YtfihccfjboopiaaRefComP
namespace Go.Proofs.Ytfihccfjboopiaa.G

/-- A text of t bytes leads to this place. -/
def SoundE (P Q : List (List El)) (t : Nat) (e : Ent) : Prop := e.2.length = t ∧ InP P Q e.1 ∧ ∀ s, Run (prOf P Q e.1).1 (prOf P Q e.1).2 s → ∃ x0, x0 ∈ pairs P Q ∧ Run x0.1 x0.2 (e.2 ++ s)
/-- s is the least text that a pair of alternatives has in common. -/
def Least (P Q : List (List El)) (s : List Nat) : Prop := (∃ x0, x0 ∈ pairs P Q ∧ Run x0.1 x0.2 s) ∧ ∀ x0, x0 ∈ pairs P Q → ∀ u, Run x0.1 x0.2 u → leqT s u
def Nil (P Q : List (List El)) : Prop := ∀ x0, x0 ∈ pairs P Q → ∀ u, ¬ Run x0.1 x0.2 u

theorem least_of {P Q : List (List El)} (hp : GoodA P) (hq : GoodA Q) {s : List Nat} (h : IsCommon (anyM P) (anyM Q) (some s)) : Least P Q s := by
  obtain ⟨h1, h2, h3⟩ := h.2 s rfl
  refine ⟨?_, fun x0 hx u hu => ?_⟩
  · obtain ⟨x, t, hx, hr, ht⟩ := anyM_run hp hq h1 h2
    rcases ht with rfl | ht
    · exact ⟨x, hx, hr⟩
    · obtain ⟨a, b⟩ := run_anyM (Q := Q) hp hx hr
      rcases h3 t a b with h | h | h
      · omega
      · rw [h] at ht; omega
      · omega
  · obtain ⟨a, b⟩ := run_anyM (Q := Q) hp hx hu
    exact h3 u a b
theorem nil_of {P Q : List (List El)} (hp : GoodA P) (h : IsCommon (anyM P) (anyM Q) none) : Nil P Q := fun x0 hx u hu => by
  obtain ⟨a, b⟩ := run_anyM (Q := Q) hp hx hu
  exact h.1 rfl u ⟨a, b⟩

theorem leq_len {s u : List Nat} (h : leqT s u) : s.length ≤ u.length := by
  rcases h with h | h | h
  · omega
  · rw [h]; exact Nat.le_refl _
  · omega
theorem sound_uniq {P Q : List (List El)} {t : Nat} {s : List Nat} {e : Ent} (hl : Least P Q s) (he : SoundE P Q t e) (ht : t ≤ s.length) (hr : Run (prOf P Q e.1).1 (prOf P Q e.1).2 (s.drop t)) (hle : tle e.2 (s.take t) = true) : e.2 = s.take t := by
  obtain ⟨x0, hx, hu⟩ := he.2.2 _ hr
  have h1 := hl.2 x0 hx _ hu
  have h2 := leq_not h1 (by simp [he.1]; omega)
  rcases tle_iff.1 hle with h | h
  · exact h
  · have h3 := tlt_app (s.drop t) (s.drop t) (by rw [he.1, List.length_take]; omega) h
    rw [List.take_append_drop] at h3
    unfold tle at h2
    rw [h3] at h2
    cases h2
theorem sound_skip {P Q : List (List El)} {t : Nat} {e : Ent} (he : SoundE P Q t e) {y : Pos} (hy : y ∈ skipsOf P Q e.1) : SoundE P Q t (y, e.2) := by
  obtain ⟨h1, h2, _⟩ := skip_of he.2.1 hy
  exact ⟨he.1, h1, fun s hs => he.2.2 s (h2.run hs)⟩
theorem sound_start {P Q : List (List El)} {a b : Nat} (ha : a < P.length) (hb : b < Q.length) : SoundE P Q 0 (⟨a, 0, b, 0⟩, []) := by
  refine ⟨rfl, ⟨ha, hb, Nat.zero_le _, Nat.zero_le _⟩, fun s hs => ⟨_, mem_pairs.2 ⟨?_, ?_⟩, hs⟩⟩
  · simp only [prOf, List.drop_zero]
    rw [List.getD_eq_getElem?_getD, List.getElem?_eq_getElem ha]
    exact List.getElem_mem ha
  · simp only [prOf, List.drop_zero]
    rw [List.getD_eq_getElem?_getD, List.getElem?_eq_getElem hb]
    exact List.getElem_mem hb

/-- The reference's step: a star is met by any byte. -/
def headR : List El → Nat → Bool
  | a :: _, c => a.star || a.set c
  | [], _ => false
def goP (P Q : List (List El)) (x : Pos) (c : Nat) : Bool := headR (prOf P Q x).1 c && headR (prOf P Q x).2 c
theorem inP_mem {P Q : List (List El)} {x : Pos} (h : InP P Q x) : P.getD x.a [] ∈ P ∧ Q.getD x.b [] ∈ Q := by
  obtain ⟨h1, h2, _⟩ := h
  constructor
  · rw [List.getD_eq_getElem?_getD, List.getElem?_eq_getElem h1]
    exact List.getElem_mem h1
  · rw [List.getD_eq_getElem?_getD, List.getElem?_eq_getElem h2]
    exact List.getElem_mem h2
theorem good_drop {P : List (List El)} (hp : GoodA P) {a : List El} (ha : a ∈ P) {i : Nat} : ∀ e, e ∈ a.drop i → Good e := fun e he => hp a ha e (List.mem_of_mem_drop he)
theorem headR_set {l : List El} (hl : ∀ e, e ∈ l → Good e) {c : Nat} (hc : pr c = true) : headR l c = headSet l c := by
  cases l with
  | nil => rfl
  | cons a l =>
    simp only [headR, headSet]
    cases ha : a.star with
    | false => rfl
    | true => rw [(hl a (by simp)).2 ha, hc]; rfl
theorem goP_both {P Q : List (List El)} (hp : GoodA P) (hq : GoodA Q) {x : Pos} (hx : InP P Q x) {c : Nat} (hc : pr c = true) : goP P Q x c = bothOf P Q x c := by
  obtain ⟨h1, h2⟩ := inP_mem hx
  unfold goP bothOf
  rw [headR_set (l := (prOf P Q x).1) (good_drop hp h1) hc, headR_set (l := (prOf P Q x).2) (good_drop hq h2) hc, hc]
  rfl
theorem next_self {P Q : List (List El)} {x : Pos} (h1 : starts (prOf P Q x).1 = true) (h2 : starts (prOf P Q x).2 = true) : nextOf P Q x = x := by
  unfold nextOf
  rw [if_pos h1, if_pos h2]
theorem goP_ok {P Q : List (List El)} (hp : GoodA P) (hq : GoodA Q) {x : Pos} (hx : InP P Q x) {c : Nat} (hc : pr c = true) (hg : goP P Q x c = true) (hn : nextOf P Q x ≠ x) : okOf P Q x = true := by
  have hb : bothOf P Q x c = true := (goP_both hp hq hx hc).symm.trans hg
  unfold bothOf at hb
  simp only [Bool.and_eq_true] at hb
  unfold okOf
  have hs : ¬ (starts (prOf P Q x).1 = true ∧ starts (prOf P Q x).2 = true) := fun ⟨a, b⟩ => hn (next_self a b)
  revert hs
  obtain ⟨_, hb1, hb2⟩ := hb
  revert hb1 hb2
  generalize (prOf P Q x).1 = l
  generalize (prOf P Q x).2 = m
  intro hb1 hb2 hs
  match l, m with
  | [], _ => cases hb1
  | _ :: _, [] => cases hb2
  | a :: l, b :: m =>
    simp only [stepOk, starts, Bool.and_eq_true, Bool.not_eq_true'] at hs ⊢
    refine ⟨?_, (some2_iff a b).2 ⟨c, hc, hb1, hb2⟩⟩
    cases ha : a.star with
    | false => rfl
    | true =>
      cases hbs : b.star with
      | false => rfl
      | true => exact absurd ⟨ha, hbs⟩ hs
theorem sound_step {P Q : List (List El)} (hp : GoodA P) (hq : GoodA Q) {t : Nat} {e : Ent} (he : SoundE P Q t e) {c : Nat} (hc : pr c = true) (hg : goP P Q e.1 c = true) (hn : nextOf P Q e.1 ≠ e.1) : SoundE P Q (t + 1) (nextOf P Q e.1, e.2 ++ [c]) := by
  have hok := goP_ok hp hq he.2.1 hc hg hn
  refine ⟨by simp [he.1], (next_in he.2.1 hok).1, fun s hs => ?_⟩
  have hst := (steps_iff hp he.2.1.1 (c := c)).2 ⟨hok, (goP_both hp hq he.2.1 hc).symm.trans hg, rfl⟩
  obtain ⟨x0, hx, hr⟩ := he.2.2 (c :: s) (hst.run hs)
  exact ⟨x0, hx, by simpa using hr⟩

/-- What 'closed' makes of a list. -/
structure ClosedP (P Q : List (List El)) (t : Nat) (l out : List Ent) : Prop where
  sound : ∀ e ∈ out, SoundE P Q t e
  low : ∀ e ∈ l, ∃ e' ∈ out, e'.1 = e.1 ∧ tle e'.2 e.2 = true
  next : ∀ e ∈ out, ∀ y ∈ skipsOf P Q e.1, ∃ e' ∈ out, e'.1 = y ∧ tle e'.2 e.2 = true
  sorted : Sorted out
  once : Once out
def Hits (P Q : List (List El)) (s : List Nat) (t : Nat) (l : List Ent) : Prop := ∃ e ∈ l, e.2 = s.take t ∧ Run (prOf P Q e.1).1 (prOf P Q e.1).2 (s.drop t)

theorem hits_start {P Q : List (List El)} {s : List Nat} (hl : Least P Q s) {l : List Ent} (h : ∀ a b, a < P.length → b < Q.length → (⟨a, 0, b, 0⟩, []) ∈ l) : Hits P Q s 0 l := by
  obtain ⟨⟨x0, hx, hr⟩, _⟩ := hl
  obtain ⟨h1, h2⟩ := mem_pairs.1 hx
  obtain ⟨a, ha, ea⟩ := List.getElem_of_mem h1
  obtain ⟨b, hb, eb⟩ := List.getElem_of_mem h2
  refine ⟨_, h a b ha hb, rfl, ?_⟩
  simp only [prOf, List.drop_zero]
  rw [List.getD_eq_getElem?_getD, List.getElem?_eq_getElem ha, List.getD_eq_getElem?_getD, List.getElem?_eq_getElem hb, Option.getD_some, Option.getD_some, ea, eb]
  exact hr
theorem closed_hits {P Q : List (List El)} {s : List Nat} {t : Nat} {l out : List Ent} (hl : Least P Q s) (ht : t ≤ s.length) (hc : ClosedP P Q t l out) (h : Hits P Q s t l) : Hits P Q s t out := by
  obtain ⟨e, he, h1, h2⟩ := h
  obtain ⟨e', he', hp, hle⟩ := hc.low e he
  rw [h1] at hle
  rw [← hp] at h2
  exact ⟨e', he', sound_uniq hl (hc.sound e' he') ht h2 hle, h2⟩
theorem closed_first {P Q : List (List El)} (hgp : GoodA P) {s : List Nat} {t : Nat} {l out : List Ent} (hl : Least P Q s) (ht : t ≤ s.length) (hc : ClosedP P Q t l out) {l1 l2 : List El} {r : List Nat} (hr : Run l1 l2 r) :
    ∀ e ∈ out, e.2 = s.take t → prOf P Q e.1 = (l1, l2) → r = s.drop t →
      (r = [] ∧ ∃ e ∈ out, e.2 = s.take t ∧ prOf P Q e.1 = ([], [])) ∨
      (∃ e ∈ out, ∃ c s', e.2 = s.take t ∧ r = c :: s' ∧ okOf P Q e.1 = true ∧ bothOf P Q e.1 c = true ∧ Run (prOf P Q (nextOf P Q e.1)).1 (prOf P Q (nextOf P Q e.1)).2 s') := by
  induction hr with
  | done => exact fun e he h1 h2 _ => .inl ⟨rfl, e, he, h1, h2⟩
  | @left a l m r ha hr ih =>
    intro e he h1 h2 h3
    have hk : Skip (prOf P Q e.1) (l, m) := by rw [h2]; exact .left ha
    obtain ⟨y, hy, hz⟩ := skip_all hk
    obtain ⟨e', he', hp, hle⟩ := hc.next e he y hy
    have hr' : Run (prOf P Q e'.1).1 (prOf P Q e'.1).2 (s.drop t) := by rw [hp, ← hz, ← h3]; exact hr
    rw [h1] at hle
    exact ih e' he' (sound_uniq hl (hc.sound e' he') ht hr' hle) (by rw [hp, ← hz]) h3
  | @right a l m r ha hr ih =>
    intro e he h1 h2 h3
    have hk : Skip (prOf P Q e.1) (l, m) := by rw [h2]; exact .right ha
    obtain ⟨y, hy, hz⟩ := skip_all hk
    obtain ⟨e', he', hp, hle⟩ := hc.next e he y hy
    have hr' : Run (prOf P Q e'.1).1 (prOf P Q e'.1).2 (s.drop t) := by rw [hp, ← hz, ← h3]; exact hr
    rw [h1] at hle
    exact ih e' he' (sound_uniq hl (hc.sound e' he') ht hr' hle) (by rw [hp, ← hz]) h3
  | @byte a b l m c r hab h1 h2 hr _ =>
    intro e he e1 e2 e3
    have hx := (hc.sound e he).2.1
    have hga : Good a := good_drop hgp (inP_mem hx).1 (i := e.1.i) a (by
      show a ∈ (prOf P Q e.1).1
      rw [e2]; simp)
    have hst : Steps (prOf P Q e.1) c (stay (a :: l), stay (b :: m)) := by
      rw [e2]
      refine ⟨?_, rfl, h1, h2⟩
      simp only [stepOk, Bool.and_eq_true, Bool.not_eq_true']
      exact ⟨hab, (some2_iff a b).2 ⟨c, hga.1 c h1, h1, h2⟩⟩
    obtain ⟨k1, k2, k3⟩ := (steps_iff hgp hx.1).1 hst
    exact .inr ⟨e, he, c, r, e1, rfl, k1, k2, by rw [← k3]; exact hr⟩

def endB (P Q : List (List El)) (x : Pos) : Bool := decide (x.i = (P.getD x.a []).length) && decide (x.j = (Q.getD x.b []).length)
theorem end_iff {P Q : List (List El)} {x : Pos} (hx : InP P Q x) : endB P Q x = true ↔ prOf P Q x = ([], []) := by
  obtain ⟨_, _, h3, h4⟩ := hx
  unfold endB prOf
  simp only [Bool.and_eq_true, decide_eq_true_eq, Prod.mk.injEq, List.drop_eq_nil_iff]
  omega
theorem end_run {P Q : List (List El)} {t : Nat} {e : Ent} (he : SoundE P Q t e) (hb : endB P Q e.1 = true) : ∃ x0, x0 ∈ pairs P Q ∧ Run x0.1 x0.2 e.2 := by
  have h := (end_iff he.2.1).1 hb
  obtain ⟨x0, hx, hr⟩ := he.2.2 [] (by rw [h]; exact .done)
  exact ⟨x0, hx, by simpa using hr⟩
/-- The first end of a level is the answer. -/
theorem first_end {P Q : List (List El)} (hgp : GoodA P) {s : List Nat} {t : Nat} {l out : List Ent} (hl : Least P Q s) (ht : t ≤ s.length) (hc : ClosedP P Q t l out) (h : Hits P Q s t l) {n : Nat} {e : Ent} (hn : out[n]? = some e) (hb : endB P Q e.1 = true)
    (hno : ∀ (m : Nat) (x : Ent), m < n → out[m]? = some x → endB P Q x.1 = false) : e.2 = s := by
  have hem : e ∈ out := List.mem_of_getElem? hn
  obtain ⟨x0, hx, hr⟩ := end_run (hc.sound e hem) hb
  have hle := hl.2 x0 hx _ hr
  have hlen := leq_len hle
  rw [(hc.sound e hem).1] at hlen
  have hts : t = s.length := by omega
  obtain ⟨e1, he1, h1, h2⟩ := closed_hits hl ht hc h
  rcases closed_first hgp hl ht hc h2 e1 he1 h1 rfl rfl with ⟨_, e2, he2, k1, k2⟩ | ⟨_, _, c, s', _, k2, _⟩
  · have hb2 : endB P Q e2.1 = true := (end_iff (hc.sound e2 he2).2.1).2 k2
    obtain ⟨m, hm, em⟩ := List.getElem_of_mem he2
    have hmn : ¬ m < n := fun hlt => by
      have := hno m e2 hlt (by rw [List.getElem?_eq_getElem hm, em])
      rw [hb2] at this; cases this
    have hk : tle e.2 e2.2 = true := by
      obtain ⟨hnl, en⟩ := List.getElem?_eq_some_iff.1 hn
      rcases Nat.eq_or_lt_of_le (Nat.le_of_not_lt hmn) with h | h
      · subst h
        rw [← en, ← em]
        exact tle_refl _
      · have := List.pairwise_iff_getElem.1 hc.sorted n m hnl hm h
        rw [en, em] at this
        exact this
    have hs2 : e2.2 = s := by rw [k1, hts]; exact List.take_length
    rw [hs2] at hk
    exact tle_anti hk (leq_not hle (by rw [(hc.sound e hem).1]; exact hts))
  · have : (s.drop t).length = 0 := by rw [List.length_drop]; omega
    rw [k2] at this
    cases this
theorem no_end {P Q : List (List El)} {t : Nat} {e : Ent} (hl : Nil P Q) (he : SoundE P Q t e) : endB P Q e.1 = false := by
  cases hb : endB P Q e.1 with
  | false => rfl
  | true =>
    obtain ⟨x0, hx, hr⟩ := end_run he hb
    exact absurd hr (hl x0 hx _)

/-- What the bytes make of a level. -/
structure NextP (P Q : List (List El)) (t : Nat) (out seen nxt : List Ent) : Prop where
  sound : ∀ e ∈ nxt, SoundE P Q (t + 1) e ∧ hasP seen e.1 = false
  low : ∀ e ∈ out, ∀ c, pr c = true → goP P Q e.1 c = true → hasP seen (nextOf P Q e.1) = false → ∃ e' ∈ nxt, e'.1 = nextOf P Q e.1 ∧ tle e'.2 (e.2 ++ [c]) = true

theorem hasP_iff {l : List Ent} {z : Pos} : hasP l z = true ↔ ∃ e ∈ l, e.1 = z := by
  simp [hasP]
theorem next_hits {P Q : List (List El)} (hgp : GoodA P) (hgq : GoodA Q) {s : List Nat} {t : Nat} {l out seen nxt : List Ent} (hl : Least P Q s) (ht : t ≤ s.length) (hc : ClosedP P Q t l out) (h : Hits P Q s t l) (hno : ∀ e ∈ out, endB P Q e.1 = false)
    (hseen : ∀ e ∈ seen, ∃ t', t' ≤ t ∧ SoundE P Q t' e) (hn : NextP P Q t out seen nxt) : t + 1 ≤ s.length ∧ Hits P Q s (t + 1) nxt := by
  obtain ⟨e1, he1, h1, h2⟩ := closed_hits hl ht hc h
  rcases closed_first hgp hl ht hc h2 e1 he1 h1 rfl rfl with ⟨_, e2, he2, _, k2⟩ | ⟨e, he, c, s', k1, k2, k3, k4, k5⟩
  · have hb2 : endB P Q e2.1 = true := (end_iff (hc.sound e2 he2).2.1).2 k2
    rw [hno e2 he2] at hb2
    cases hb2
  · have hlt : t + 1 ≤ s.length := by
      have : (s.drop t).length = s'.length + 1 := by rw [k2]; rfl
      rw [List.length_drop] at this
      omega
    have hpc : pr c = true := by
      unfold bothOf at k4
      simp only [Bool.and_eq_true] at k4
      exact k4.1
    have hg : goP P Q e.1 c = true := (goP_both hgp hgq (hc.sound e he).2.1 hpc).trans k4
    have hs' : s.drop (t + 1) = s' := by
      rw [← List.drop_drop, k2]; rfl
    have htk : s.take t ++ [c] = s.take (t + 1) := by
      have h0 : s[t]? = some c := by
        have := congrArg List.head? k2
        rw [List.head?_drop] at this
        exact this
      rw [List.take_add_one, h0]
      rfl
    have hns : hasP seen (nextOf P Q e.1) = false := by
      cases hb : hasP seen (nextOf P Q e.1) with
      | false => rfl
      | true =>
        obtain ⟨x, hx, hxz⟩ := hasP_iff.1 hb
        obtain ⟨t', ht', hsx⟩ := hseen x hx
        obtain ⟨x0, hx0, hr⟩ := hsx.2.2 s' (by rw [hxz]; exact k5)
        have := leq_len (hl.2 x0 hx0 _ hr)
        simp only [List.length_append, hsx.1] at this
        have hk : (s.drop (t + 1)).length = s'.length := by rw [hs']
        rw [List.length_drop] at hk
        omega
    obtain ⟨e', he', hz, hle⟩ := hn.low e he c hpc hg hns
    rw [k1, htk] at hle
    have hr' : Run (prOf P Q e'.1).1 (prOf P Q e'.1).2 (s.drop (t + 1)) := by rw [hz, hs']; exact k5
    exact ⟨hlt, e', he', sound_uniq hl (hn.sound e' he').1 hlt hr' hle, hr'⟩

/-! THE PLACES ARE FEW. -/
def univ (P Q : List (List El)) (N : Nat) : List Pos := (List.range P.length).flatMap fun a => (List.range (N + 1)).flatMap fun i => (List.range Q.length).flatMap fun b => (List.range (N + 1)).map fun j => ⟨a, i, b, j⟩
theorem mem_univ {P Q : List (List El)} {N : Nat} (hP : ∀ a ∈ P, a.length ≤ N) (hQ : ∀ a ∈ Q, a.length ≤ N) {x : Pos} (hx : InP P Q x) : x ∈ univ P Q N := by
  obtain ⟨h1, h2⟩ := inP_mem hx
  obtain ⟨a, b, c, d⟩ := hx
  have := hP _ h1
  have := hQ _ h2
  simp only [univ, List.mem_flatMap, List.mem_range, List.mem_map]
  exact ⟨x.a, a, x.i, by omega, x.b, b, x.j, by omega, rfl⟩
theorem len_flat {α β : Type} {l : List α} {f : α → List β} {k : Nat} (h : ∀ a ∈ l, (f a).length = k) : (l.flatMap f).length = l.length * k := by
  induction l with
  | nil => simp
  | cons a l ih =>
    rw [List.flatMap_cons, List.length_append, ih fun x hx => h x (List.mem_cons_of_mem _ hx), h a (by simp), List.length_cons, Nat.add_mul, Nat.one_mul]
    omega
theorem len_univ (P Q : List (List El)) (N : Nat) : (univ P Q N).length = P.length * ((N + 1) * (Q.length * (N + 1))) := by
  unfold univ
  rw [len_flat (k := (N + 1) * (Q.length * (N + 1))), List.length_range]
  intro a _
  rw [len_flat (k := Q.length * (N + 1)), List.length_range]
  intro i _
  rw [len_flat (k := N + 1), List.length_range]
  intro b _
  simp
theorem once_len : ∀ {l : List Ent} {U : List Pos}, Once l → (∀ e ∈ l, e.1 ∈ U) → l.length ≤ U.length
  | [], _, _, _ => Nat.zero_le _
  | a :: l, U, h, hu => by
    have h1 := List.pairwise_cons.1 h
    have ha := hu a (by simp)
    have := once_len (l := l) (U := U.erase a.1) h1.2 fun e he => by
      have hne : e.1 ≠ a.1 := fun k => h1.1 e he k.symm
      exact (List.mem_erase_of_ne hne).2 (hu e (List.mem_cons_of_mem _ he))
    rw [List.length_erase_of_mem ha] at this
    have := List.length_pos_of_mem ha
    simp only [List.length_cons]
    omega
/-- How many places have not been seen. -/
def unseen (U : List Pos) (seen : List Ent) : Nat := (U.filter fun x => !hasP seen x).length
theorem unseen_le (U : List Pos) (seen : List Ent) : unseen U seen ≤ U.length := List.length_filter_le _ _
theorem filter_lt {α : Type} {p q : α → Bool} : ∀ {l : List α}, (∀ x ∈ l, q x = true → p x = true) → (∃ x ∈ l, p x = true ∧ q x = false) → (l.filter q).length < (l.filter p).length
  | [], _, h => by obtain ⟨x, hx, _⟩ := h; cases hx
  | a :: l, hqp, h => by
    have hle : ∀ {l : List α}, (∀ x ∈ l, q x = true → p x = true) → (l.filter q).length ≤ (l.filter p).length := by
      intro l
      induction l with
      | nil => intro _; exact Nat.le_refl _
      | cons b l ih =>
        intro hb
        have h2 := ih fun x hx => hb x (List.mem_cons_of_mem _ hx)
        rw [List.filter_cons, List.filter_cons]
        cases hqb : q b with
        | true => rw [hb b (by simp) hqb]; simpa using h2
        | false =>
          cases hpb : p b with
          | true => simp; omega
          | false => simpa using h2
    have ht : ∀ x ∈ l, q x = true → p x = true := fun x hx => hqp x (List.mem_cons_of_mem _ hx)
    rw [List.filter_cons, List.filter_cons]
    obtain ⟨x, hx, h1, h2⟩ := h
    rcases List.mem_cons.1 hx with rfl | hx
    · rw [h1, h2]
      have := hle ht
      simp; omega
    · have ih := filter_lt ht ⟨x, hx, h1, h2⟩
      cases hqb : q a with
      | true => rw [hqp a (by simp) hqb]; simpa using ih
      | false =>
        cases hpb : p a with
        | true => simp; omega
        | false => simpa using ih
theorem unseen_lt {U : List Pos} {seen out : List Ent} {z : Pos} (hz : z ∈ U) (h1 : hasP seen z = false) (h2 : hasP out z = true) : unseen U (seen ++ out) < unseen U seen := by
  unfold unseen
  refine filter_lt (fun x _ h => ?_) ⟨z, hz, by rw [h1]; rfl, ?_⟩
  · unfold hasP at h ⊢
    rw [List.any_append] at h
    simp only [Bool.not_eq_true', Bool.or_eq_false_iff] at h ⊢
    exact h.1
  · unfold hasP at h2 ⊢
    rw [List.any_append, h2]
    simp

/-! THE CLOSURE COMES TO AN END. -/
def rank (Ts : List (List Nat)) (t : List Nat) : Nat := (Ts.filter fun u => tlt u t).length
def valP (Ts : List (List Nat)) (l : List Ent) (x : Pos) : Nat := match l.find? (fun e => decide (e.1 = x)) with
  | some e => rank Ts e.2
  | none => Ts.length + 1
def pot (U : List Pos) (Ts : List (List Nat)) (l : List Ent) : Nat := (U.map (valP Ts l)).sum
theorem rank_le (Ts : List (List Nat)) (t : List Nat) : rank Ts t ≤ Ts.length := List.length_filter_le _ _
theorem rank_lt {Ts : List (List Nat)} {s t : List Nat} (hs : s ∈ Ts) (h : tlt s t = true) : rank Ts s < rank Ts t :=
  filter_lt (fun _ _ hx => tlt_trans hx h) ⟨s, hs, h, tlt_self s⟩
theorem rank_mono {Ts : List (List Nat)} {s t : List Nat} (h : tle s t = true) : rank Ts s ≤ rank Ts t := by
  rcases tle_iff.1 h with rfl | h
  · exact Nat.le_refl _
  · by_cases hs : ∃ x ∈ Ts, tlt x t = true ∧ tlt x s = false
    · exact Nat.le_of_lt (filter_lt (fun x _ hx => tlt_trans hx h) hs)
    · unfold rank
      rw [List.filter_congr (fun x hx => ?_)]
      exact Nat.le_refl _
      cases h1 : tlt x s with
      | true => exact (tlt_trans h1 h).symm
      | false =>
        cases h2 : tlt x t with
        | false => rfl
        | true => exact absurd ⟨x, hx, h2, h1⟩ hs
theorem find_once {l : List Ent} (h : Once l) {e : Ent} (he : e ∈ l) : l.find? (fun x => decide (x.1 = e.1)) = some e := by
  cases hf : l.find? (fun x => decide (x.1 = e.1)) with
  | none => exact absurd rfl (find_none hf e he)
  | some x =>
    obtain ⟨hx, hxe⟩ := find_some hf
    rw [once_eq h hx he hxe]
theorem sum_lt {α : Type} {f g : α → Nat} : ∀ {l : List α}, (∀ x ∈ l, g x ≤ f x) → (∃ x ∈ l, g x < f x) → (l.map g).sum < (l.map f).sum
  | [], _, h => by obtain ⟨x, hx, _⟩ := h; cases hx
  | a :: l, hle, h => by
    have hl : ∀ {l : List α}, (∀ x ∈ l, g x ≤ f x) → (l.map g).sum ≤ (l.map f).sum := by
      intro l
      induction l with
      | nil => intro _; exact Nat.le_refl _
      | cons b l ih =>
        intro hb
        have h1 := hb b (by simp)
        have h2 := ih fun x hx => hb x (List.mem_cons_of_mem _ hx)
        simp only [List.map_cons, List.sum_cons]
        omega
    have h1 := hle a (by simp)
    have h2 := hl fun x hx => hle x (List.mem_cons_of_mem _ hx)
    simp only [List.map_cons, List.sum_cons]
    obtain ⟨x, hx, hlt⟩ := h
    rcases List.mem_cons.1 hx with rfl | hx
    · omega
    · have := sum_lt (fun x hx => hle x (List.mem_cons_of_mem _ hx)) ⟨x, hx, hlt⟩
      omega
theorem pot_lt {U : List Pos} {Ts : List (List Nat)} {l : List Ent} {z : Ent} (h : Once l) (hz : z.1 ∈ U) (ht : z.2 ∈ Ts) (hb : betterP l z = true) : pot U Ts (putP l z) < pot U Ts l := by
  have hp := put_put z h
  refine sum_lt (fun x _ => ?_) ⟨z.1, hz, ?_⟩
  · unfold valP
    cases hf : l.find? (fun e => decide (e.1 = x)) with
    | none =>
      cases hg : (putP l z).find? (fun e => decide (e.1 = x)) with
      | none => exact Nat.le_refl _
      | some e => exact Nat.le_trans (rank_le _ _) (Nat.le_succ _)
    | some e =>
      obtain ⟨he, hx⟩ := find_some hf
      obtain ⟨e', he', h1, h2⟩ := hp.low e (.inl he)
      have hg : (putP l z).find? (fun e => decide (e.1 = x)) = some e' := by
        rw [← hx, ← h1]
        exact find_once hp.once he'
      rw [hg]
      exact rank_mono h2
  · obtain ⟨e', he', h1, h2⟩ := hp.low z (.inr rfl)
    unfold valP
    have hg : (putP l z).find? (fun e => decide (e.1 = z.1)) = some e' := by
      rw [← h1]
      exact find_once hp.once he'
    rw [hg]
    unfold betterP at hb
    cases hf : l.find? (fun e => decide (e.1 = z.1)) with
    | none => exact Nat.lt_succ_of_le (rank_le _ _)
    | some e =>
      rw [hf] at hb
      exact Nat.lt_of_le_of_lt (rank_mono h2) (rank_lt ht hb)

end Go.Proofs.Ytfihccfjboopiaa.G
