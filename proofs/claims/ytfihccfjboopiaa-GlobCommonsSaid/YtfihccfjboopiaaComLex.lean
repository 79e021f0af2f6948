/-
  PLAIN LAW OF COMMON TEXTS, the second part: the least text is found byte by byte. No program in sight.
-/
import Derived.Test.YtfihccfjboopiaaComPlain
namespace Go.Proofs.Ytfihccfjboopiaa.G

abbrev Pr := List El × List El

/-- One place further without a byte. -/
inductive Skip : Pr → Pr → Prop
  | left {e : El} {l m : List El} : e.star = true → Skip (e :: l, m) (l, m)
  | right {e : El} {l m : List El} : e.star = true → Skip (l, e :: m) (l, m)
inductive Skips : Pr → Pr → Prop
  | refl (x : Pr) : Skips x x
  | step {x y z : Pr} : Skips x y → Skip y z → Skips x z

theorem Skip.run {x y : Pr} {s : List Nat} (h : Skip x y) (hr : Run y.1 y.2 s) : Run x.1 x.2 s := by
  cases h with
  | left he => exact .left he hr
  | right he => exact .right he hr
theorem Skips.run {x y : Pr} {s : List Nat} (h : Skips x y) : Run y.1 y.2 s → Run x.1 x.2 s := by
  induction h with
  | refl => exact id
  | step _ h ih => exact fun hr => ih (h.run hr)
theorem Skips.trans {x y z : Pr} (h : Skips x y) (k : Skips y z) : Skips x z := by
  induction k with
  | refl => exact h
  | step _ hs ih => exact .step ih hs

def headSet : List El → Nat → Bool
  | a :: _, c => a.set c
  | [], _ => false

/-- By a byte from one pair to the next one. -/
def Steps (x : Pr) (c : Nat) (y : Pr) : Prop := stepOk x.1 x.2 = true ∧ y = (stay x.1, stay x.2) ∧ headSet x.1 c = true ∧ headSet x.2 c = true

theorem Steps.run {x y : Pr} {c : Nat} {s : List Nat} (h : Steps x c y) (hr : Run y.1 y.2 s) : Run x.1 x.2 (c :: s) := by
  obtain ⟨l, m⟩ := x
  obtain ⟨h1, rfl, h3, h4⟩ := h
  match l, m with
  | [], _ => cases h3
  | _ :: _, [] => cases h4
  | a :: l, b :: m =>
    simp only [stepOk, Bool.and_eq_true, Bool.not_eq_true'] at h1
    exact .byte h1.1 h3 h4 hr

/-- All elements of both lists are good. -/
def GoodP (x : Pr) : Prop := (∀ e, e ∈ x.1 → Good e) ∧ ∀ e, e ∈ x.2 → Good e
theorem GoodP.skip {x y : Pr} (h : GoodP x) (k : Skip x y) : GoodP y := by
  cases k with
  | left _ => exact ⟨fun e he => h.1 e (List.mem_cons_of_mem _ he), h.2⟩
  | right _ => exact ⟨h.1, fun e he => h.2 e (List.mem_cons_of_mem _ he)⟩
theorem GoodP.skips {x y : Pr} (h : GoodP x) (k : Skips x y) : GoodP y := by
  induction k with
  | refl => exact h
  | step _ hs ih => exact ih.skip hs
theorem good_stay {l : List El} (h : ∀ e, e ∈ l → Good e) : ∀ e, e ∈ stay l → Good e := fun e he => by
  cases l with
  | nil => cases he
  | cons a l =>
    rw [stay] at he
    split at he
    · exact h e he
    · exact h e (List.mem_cons_of_mem _ he)
theorem GoodP.steps {x y : Pr} {c : Nat} (h : GoodP x) (k : Steps x c y) : GoodP y := by
  obtain ⟨_, rfl, _⟩ := k
  exact ⟨good_stay h.1, good_stay h.2⟩
def costP (x : Pr) : Option Nat := cost x.1 x.2
theorem GoodP.cost {x : Pr} (h : GoodP x) : IsCost x.1 x.2 (costP x) := cost_is _ x.1 x.2 (Nat.le_refl _) h.1
theorem costP_of {x : Pr} (h : GoodP x) {n : Nat} (h1 : ∃ s, Run x.1 x.2 s ∧ s.length = n) (h2 : ∀ s, Run x.1 x.2 s → n ≤ s.length) : costP x = some n :=
  h.cost.eq ⟨fun k hk => by cases hk; exact h1, fun s hs => ⟨n, rfl, h2 s hs⟩⟩
theorem costP_low {x : Pr} (h : GoodP x) {n : Nat} (hc : costP x = some n) {s : List Nat} (hs : Run x.1 x.2 s) : n ≤ s.length := by
  obtain ⟨k, hk, hl⟩ := h.cost.2 s hs
  rw [hc] at hk
  cases hk
  exact hl

/-- A is what is reached from l without a byte, as far as just n bytes more are needed. -/
structure Closed (n : Nat) (l A : List Pr) : Prop where
  from_ : ∀ y, y ∈ A → ∃ x, x ∈ l ∧ Skips x y
  cost_ : ∀ y, y ∈ A → costP y = some n
  begin_ : ∀ x, x ∈ l → costP x = some n → x ∈ A
  next_ : ∀ y, y ∈ A → ∀ z, Skip y z → costP z = some n → z ∈ A

theorem Closed.first {n : Nat} {l A : List Pr} (hA : Closed (n + 1) l A) (hg : ∀ x, x ∈ A → GoodP x) {l1 l2 : List El} {t : List Nat} (hr : Run l1 l2 t) :
    (l1, l2) ∈ A → t.length = n + 1 → ∃ y z c s, y ∈ A ∧ Steps y c z ∧ Run z.1 z.2 s ∧ t = c :: s := by
  induction hr with
  | done => intro _ h; cases h
  | @left e l m s he hr ih =>
    intro hx hl
    have hk : Skip (e :: l, m) (l, m) := .left he
    refine ih (hA.next_ _ hx _ hk (costP_of ((hg _ hx).skip hk) ⟨s, hr, hl⟩ fun u hu => ?_)) hl
    exact costP_low (hg _ hx) (hA.cost_ _ hx) (hk.run hu)
  | @right e l m s he hr ih =>
    intro hx hl
    have hk : Skip (l, e :: m) (l, m) := .right he
    refine ih (hA.next_ _ hx _ hk (costP_of ((hg _ hx).skip hk) ⟨s, hr, hl⟩ fun u hu => ?_)) hl
    exact costP_low (hg _ hx) (hA.cost_ _ hx) (hk.run hu)
  | @byte a b l m c s hab h1 h2 hr _ =>
    intro hx _
    refine ⟨_, (stay (a :: l), stay (b :: m)), c, s, hx, ⟨?_, rfl, h1, h2⟩, hr, rfl⟩
    simp only [stepOk, Bool.and_eq_true, Bool.not_eq_true']
    exact ⟨hab, (some2_iff a b).2 ⟨c, ((hg _ hx).1 a (by simp)).1 c h1, h1, h2⟩⟩

/-- a and b part at a place, and a's byte is the less there. -/
def Pre (a b : List Nat) : Prop := ∃ p x y u v, a = p ++ x :: u ∧ b = p ++ y :: v ∧ x < y

/-- What holds while the least text is found. -/
structure At (S0 : List Pr) (best : Nat) (text : List Nat) (S : List Pr) (n : Nat) : Prop where
  len : text.length + n = best
  good : ∀ x, x ∈ S → GoodP x
  low : ∀ x, x ∈ S → ∀ s, Run x.1 x.2 s → n ≤ s.length
  some_ : ∃ x, x ∈ S ∧ costP x = some n
  sound : ∀ x, x ∈ S → ∀ s, Run x.1 x.2 s → s.length = n → ∃ x0, x0 ∈ S0 ∧ Run x0.1 x0.2 (text ++ s)
  least : ∀ x0, x0 ∈ S0 → ∀ t, Run x0.1 x0.2 t → t.length = best → Pre text t ∨ ∃ s x, t = text ++ s ∧ x ∈ S ∧ Run x.1 x.2 s

theorem At.start {S0 : List Pr} {best : Nat} (hg : ∀ x, x ∈ S0 → GoodP x) (h1 : ∃ x, x ∈ S0 ∧ costP x = some best) (h2 : ∀ x, x ∈ S0 → ∀ k, costP x = some k → best ≤ k) : At S0 best [] S0 best where
  len := by simp
  good := hg
  low x hx s hs := by
    obtain ⟨k, hk, hl⟩ := (hg x hx).cost.2 s hs
    exact Nat.le_trans (h2 x hx k hk) hl
  some_ := h1
  sound x hx s hs _ := ⟨x, hx, hs⟩
  least x0 hx t ht _ := .inr ⟨t, x0, rfl, hx, ht⟩

theorem At.step {S0 : List Pr} {best : Nat} {text : List Nat} {S A R : List Pr} {n b : Nat} (h : At S0 best text S (n + 1)) (hA : Closed (n + 1) S A)
    (hb1 : ∃ y z, y ∈ A ∧ Steps y b z ∧ costP z = some n) (hb2 : ∀ y z c, y ∈ A → Steps y c z → costP z = some n → b ≤ c)
    (hR : ∀ z, z ∈ R ↔ ∃ y, y ∈ A ∧ Steps y b z ∧ costP z = some n) : At S0 best (text ++ [b]) R n := by
  have gA : ∀ x, x ∈ A → GoodP x := fun x hx => by
    obtain ⟨x0, h0, hk⟩ := hA.from_ x hx
    exact (h.good x0 h0).skips hk
  refine ⟨?_, ?_, ?_, ?_, ?_, ?_⟩
  · have := h.len; simp; omega
  · intro z hz
    obtain ⟨y, hy, hs, _⟩ := (hR z).1 hz
    exact (gA y hy).steps hs
  · intro z hz s hs
    obtain ⟨y, hy, hst, hc⟩ := (hR z).1 hz
    exact costP_low ((gA y hy).steps hst) hc hs
  · obtain ⟨y, z, hy, hs, hc⟩ := hb1
    exact ⟨z, (hR z).2 ⟨y, hy, hs, hc⟩, hc⟩
  · intro z hz s hs hl
    obtain ⟨y, hy, hst, _⟩ := (hR z).1 hz
    obtain ⟨x, hx, hk⟩ := hA.from_ y hy
    obtain ⟨x0, h0, hr⟩ := h.sound x hx (b :: s) (hk.run (hst.run hs)) (by simp [hl])
    exact ⟨x0, h0, by simpa using hr⟩
  · intro x0 h0 t ht hl
    rcases h.least x0 h0 t ht hl with ⟨p, x, y, u, v, rfl, rfl, hxy⟩ | ⟨s, x, rfl, hx, hr⟩
    · exact .inl ⟨p, x, y, u ++ [b], v, by simp, rfl, hxy⟩
    · have hsl : s.length = n + 1 := by have := h.len; simp at hl; omega
      have hxc : costP x = some (n + 1) := costP_of (h.good x hx) ⟨s, hr, hsl⟩ (h.low x hx)
      obtain ⟨y, z, c, s', hy, hst, hrz, rfl⟩ := hA.first gA hr (hA.begin_ x hx hxc) hsl
      have hzc : costP z = some n := costP_of ((gA y hy).steps hst) ⟨s', hrz, by simpa using hsl⟩ fun u hu => by
        have := costP_low (gA y hy) (hA.cost_ y hy) (hst.run hu)
        simpa using this
      have hbc := hb2 y z c hy hst hzc
      rcases Nat.eq_or_lt_of_le hbc with rfl | hlt
      · exact .inr ⟨s', z, by simp, (hR z).2 ⟨y, hy, hst, hzc⟩, hrz⟩
      · exact .inl ⟨text, b, c, [], s', by simp, rfl, hlt⟩

theorem At.end_ {S0 : List Pr} {best : Nat} {text : List Nat} {S : List Pr} (h : At S0 best text S 0) :
    (∃ x0, x0 ∈ S0 ∧ Run x0.1 x0.2 text) ∧ text.length = best ∧ ∀ x0, x0 ∈ S0 → ∀ t, Run x0.1 x0.2 t → t.length = best → Pre text t ∨ t = text := by
  have hl := h.len
  refine ⟨?_, hl, fun x0 h0 t ht hb => ?_⟩
  · obtain ⟨x, hx, hc⟩ := h.some_
    obtain ⟨s, hs, hsl⟩ := (h.good x hx).cost.1 0 hc
    obtain rfl : s = [] := List.eq_nil_of_length_eq_zero hsl
    obtain ⟨x0, h0, hr⟩ := h.sound x hx [] hs rfl
    exact ⟨x0, h0, by simpa using hr⟩
  · rcases h.least x0 h0 t ht hb with h1 | ⟨s, x, rfl, _, _⟩
    · exact .inl h1
    · have : s.length = 0 := by simp at hb; omega
      rw [List.eq_nil_of_length_eq_zero this]
      exact .inr (by simp)

/-- t comes no later than s: by the length, then byte by byte. -/
def leqT (t s : List Nat) : Prop := t.length < s.length ∨ t = s ∨ (t.length = s.length ∧ Pre t s)

/-- r is the least text that both match, none if there is none. -/
def IsCommon (M N : List Nat → Bool) (r : Option (List Nat)) : Prop :=
  (r = none → ∀ s, ¬ (M s = true ∧ N s = true)) ∧ ∀ t, r = some t → M t = true ∧ N t = true ∧ ∀ s, M s = true → N s = true → leqT t s

def anyM (P : List (List El)) (s : List Nat) : Bool := s.all pr && P.any fun a => mt a s
/-- The pairs with which the search begins. -/
def pairs (P Q : List (List El)) : List Pr := P.flatMap fun a => Q.map fun b => (a, b)
theorem mem_pairs {P Q : List (List El)} {x : Pr} : x ∈ pairs P Q ↔ x.1 ∈ P ∧ x.2 ∈ Q := by
  obtain ⟨a, b⟩ := x
  simp only [pairs, List.mem_flatMap, List.mem_map, Prod.mk.injEq]
  constructor
  · rintro ⟨c, hc, d, hd, rfl, rfl⟩; exact ⟨hc, hd⟩
  · rintro ⟨h1, h2⟩; exact ⟨a, h1, b, h2, rfl, rfl⟩
def GoodA (P : List (List El)) : Prop := ∀ a, a ∈ P → ∀ e, e ∈ a → Good e
theorem good_pairs {P Q : List (List El)} (hp : GoodA P) (hq : GoodA Q) : ∀ x, x ∈ pairs P Q → GoodP x := fun x hx => by
  have := mem_pairs.1 hx
  exact ⟨hp _ this.1, hq _ this.2⟩

theorem anyM_run {P Q : List (List El)} (hp : GoodA P) (hq : GoodA Q) {s : List Nat} (h1 : anyM P s = true) (h2 : anyM Q s = true) :
    ∃ x t, x ∈ pairs P Q ∧ Run x.1 x.2 t ∧ (t = s ∨ t.length < s.length) := by
  simp only [anyM, Bool.and_eq_true, List.any_eq_true] at h1 h2
  obtain ⟨hs, a, ha, h1⟩ := h1
  obtain ⟨_, b, hb, h2⟩ := h2
  obtain ⟨t, ht, hx⟩ := run_of _ a b s (Nat.le_refl _) (hp a ha) (hq b hb) hs h1 h2
  exact ⟨(a, b), t, mem_pairs.2 ⟨ha, hb⟩, ht, hx⟩
theorem run_anyM {P Q : List (List El)} (hp : GoodA P) {x : Pr} {t : List Nat} (hx : x ∈ pairs P Q) (hr : Run x.1 x.2 t) : anyM P t = true ∧ anyM Q t = true := by
  have hm := mem_pairs.1 hx
  have h1 := hr.mts
  have h2 := hr.printable (hp _ hm.1)
  simp only [anyM, Bool.and_eq_true, List.any_eq_true]
  exact ⟨⟨h2, _, hm.1, h1.1⟩, ⟨h2, _, hm.2, h1.2⟩⟩

theorem common_none {P Q : List (List El)} (hp : GoodA P) (hq : GoodA Q) (h : ∀ x, x ∈ pairs P Q → costP x = none) : IsCommon (anyM P) (anyM Q) none := by
  refine ⟨fun _ s ⟨h1, h2⟩ => ?_, fun t ht => by cases ht⟩
  obtain ⟨x, t, hx, hr, _⟩ := anyM_run hp hq h1 h2
  obtain ⟨n, hn, _⟩ := (good_pairs hp hq x hx).cost.2 t hr
  rw [h x hx] at hn
  cases hn
theorem common_some {P Q : List (List El)} (hp : GoodA P) (hq : GoodA Q) {best : Nat} {text : List Nat} {S : List Pr} (h2 : ∀ x, x ∈ pairs P Q → ∀ k, costP x = some k → best ≤ k) (h : At (pairs P Q) best text S 0) : IsCommon (anyM P) (anyM Q) (some text) := by
  obtain ⟨⟨x0, h0, hr⟩, hlen, hleast⟩ := h.end_
  refine ⟨fun e => (by cases e), fun t ht => ?_⟩
  cases ht
  have ha := run_anyM hp h0 hr
  refine ⟨ha.1, ha.2, fun s h1 h3 => ?_⟩
  obtain ⟨x, t, hx, hrt, hts⟩ := anyM_run hp hq h1 h3
  obtain ⟨k, hk, hkl⟩ := (good_pairs hp hq x hx).cost.2 t hrt
  have hbk := h2 x hx k hk
  rcases hts with rfl | hts
  · rcases Nat.eq_or_lt_of_le (Nat.le_trans hbk hkl) with he | hlt
    · rcases hleast x hx t hrt he.symm with hp' | rfl
      · exact .inr (.inr ⟨by omega, hp'⟩)
      · exact .inr (.inl rfl)
    · exact .inl (by omega)
  · exact .inl (by omega)

/-! WHAT THE READER MAKES IS GOOD. -/
theorem good_star : Good starEl := ⟨fun _ h => h, fun _ => rfl⟩
theorem good_any : Good anyEl := ⟨fun _ h => h, fun h => by cases h⟩
theorem good_set {s : Nat → Bool} (h : ∀ c, s c = true → pr c = true) : Good (setEl s) := ⟨h, fun h => by cases h⟩
theorem good_lit {c : Nat} (h : pr c = true) : Good (litEl c) := ⟨fun d hd => by
  simp only [litEl, decide_eq_true_eq] at hd
  rw [hd]; exact h, fun h => by cases h⟩
theorem good_app : ∀ {acc : List (List El)} {x : El}, GoodA acc → Good x → GoodA (app acc x)
  | [], x, _, hx => fun a ha e he => by
    simp only [app, List.mem_singleton] at ha
    subst ha
    simp only [List.mem_singleton] at he
    subst he
    exact hx
  | [l], x, h, hx => fun a ha e he => by
    simp only [app, List.mem_singleton] at ha
    subst ha
    rcases List.mem_append.1 he with he | he
    · exact h l (by simp) e he
    · simp only [List.mem_singleton] at he
      subst he
      exact hx
  | l :: m :: r, x, h, hx => fun a ha e he => by
    rw [app, List.mem_cons] at ha
    rcases ha with rfl | ha
    · exact h a (by simp) e he
    · exact good_app (acc := m :: r) (fun b hb => h b (List.mem_cons_of_mem _ hb)) hx a ha e he
theorem good_bar {acc : List (List El)} (h : GoodA acc) : GoodA (acc ++ [[]]) := fun a ha e he => by
  rcases List.mem_append.1 ha with ha | ha
  · exact h a ha e he
  · simp only [List.mem_singleton] at ha
    subst ha
    cases he
theorem good_fin {neg : Bool} {s : Nat → Bool} (h : ∀ c, s c = true → pr c = true) : ∀ c, fin neg s c = true → pr c = true := fun c hc => by
  cases neg with
  | false => exact h c hc
  | true =>
    simp only [fin, if_true, Bool.and_eq_true] at hc
    exact hc.1
theorem good_rng {s : Nat → Bool} {a b : Nat} (h : ∀ c, s c = true → pr c = true) (ha : pr a = true) (hb : pr b = true) : ∀ c, rng s a b c = true → pr c = true := fun c hc => by
  simp only [rng, Bool.or_eq_true, Bool.and_eq_true, decide_eq_true_eq] at hc
  rcases hc with hc | hc
  · exact h c hc
  · simp only [pr, Bool.and_eq_true, decide_eq_true_eq] at ha hb ⊢
    omega

theorem go_good : ∀ (n : Nat) (st : St) (acc : List (List El)) (p : List Nat) (l : List (List El)), p.length ≤ n → (∀ c, c ∈ p → pr c = true) → GoodA acc →
    (match st with | .out => True | .set _ _ s => ∀ c, s c = true → pr c = true) → go st acc p = some l → GoodA l
  | n, .out, acc, [], l, _, _, ha, _, h => by
    have : go .out acc [] = some acc := by simp [go]
    rw [this] at h
    cases h
    exact ha
  | 0, st, acc, c :: r, l, hn, _, _, _, _ => by simp at hn
  | n + 1, .out, acc, c :: r, l, hn, hp, ha, _, h => by
    have hr : ∀ d, d ∈ r → pr d = true := fun d hd => hp d (List.mem_cons_of_mem _ hd)
    have hl : r.length ≤ n := by simpa using hn
    by_cases h1 : c = 124
    · subst h1; rw [go_bar] at h; exact go_good n .out _ r l hl hr (good_bar ha) trivial h
    · by_cases h2 : c = 42
      · subst h2; rw [go_star] at h; exact go_good n .out _ r l hl hr (good_app ha good_star) trivial h
      · by_cases h3 : c = 63
        · subst h3; rw [go_any] at h; exact go_good n .out _ r l hl hr (good_app ha good_any) trivial h
        · by_cases h4 : c = 91
          · subst h4
            cases r with
            | nil => simp [go] at h
            | cons d r' =>
              by_cases h5 : d = 33
              · subst h5
                have e : go .out acc (91 :: 33 :: r') = go (.set true true none') acc r' := by simp [go]
                rw [e] at h
                exact go_good n _ _ r' l (by simp at hl; omega) (fun d hd => hr d (List.mem_cons_of_mem _ hd)) ha (fun c hc => by cases hc) h
              · have e : go .out acc (91 :: d :: r') = go (.set false true none') acc (d :: r') := by simp [go, h5]
                rw [e] at h
                exact go_good n _ _ (d :: r') l hl hr ha (fun c hc => by cases hc) h
          · rw [go_lit _ _ _ h1 h2 h3 h4] at h
            exact go_good n .out _ r l hl hr (good_app ha (good_lit (hp c (by simp)))) trivial h
  | n, .set neg first s, acc, [], l, _, _, _, _, h => by rw [go_end] at h; cases h
  | n + 1, .set neg first s, acc, c :: r, l, hn, hp, ha, hs, h => by
    have hr : ∀ d, d ∈ r → pr d = true := fun d hd => hp d (List.mem_cons_of_mem _ hd)
    have hl : r.length ≤ n := by simpa using hn
    by_cases h1 : c = 93
    · subst h1
      rw [go_close] at h
      split at h
      · cases h
      · exact go_good n .out _ r l hl hr (good_app ha (good_set (good_fin hs))) trivial h
    · obtain ⟨a, e, k, hm⟩ : ∃ a e k, mem (c :: r) = some (a, e, k) := by
        match r with
        | [] => exact ⟨_, _, _, rfl⟩
        | [d] => exact ⟨_, _, _, rfl⟩
        | d :: x :: r' =>
          rw [mem]
          split <;> exact ⟨_, _, _, rfl⟩
      rw [go_mem hm (by simpa using h1)] at h
      split at h
      · have hk := mem_pos hm
        have hae : pr a = true ∧ pr e = true := by
          match r, hm with
          | [], hm => simp [mem] at hm; obtain ⟨rfl, rfl, _⟩ := hm; exact ⟨hp _ (by simp), hp _ (by simp)⟩
          | [d], hm => simp [mem] at hm; obtain ⟨rfl, rfl, _⟩ := hm; exact ⟨hp _ (by simp), hp _ (by simp)⟩
          | d :: x :: r', hm =>
            rw [mem] at hm
            split at hm
            · simp at hm; obtain ⟨rfl, rfl, _⟩ := hm; exact ⟨hp _ (by simp), hp _ (by simp)⟩
            · simp at hm; obtain ⟨rfl, rfl, _⟩ := hm; exact ⟨hp _ (by simp), hp _ (by simp)⟩
        exact go_good n _ _ _ l (by simp; omega) (fun d hd => hp d (List.mem_of_mem_drop hd)) ha (good_rng hs hae.1 hae.2) h
      · cases h
termination_by n => n

theorem alts_good {p : List Nat} {l : List (List El)} (h : alts p = some l) : GoodA l := by
  unfold alts at h
  split at h
  · rename_i hp
    refine go_good _ .out [[]] p l (Nat.le_refl _) (fun c hc => List.all_eq_true.1 hp.2 c hc) (fun a ha e he => ?_) trivial h
    simp only [List.mem_singleton] at ha
    subst ha
    cases he
  · cases h

theorem matchS_anyM {p : List Nat} {l : List (List El)} (h : alts p = some l) (s : List Nat) : matchS p s = anyM l s := by
  unfold matchS
  rw [h]
  rfl

end Go.Proofs.Ytfihccfjboopiaa.G
