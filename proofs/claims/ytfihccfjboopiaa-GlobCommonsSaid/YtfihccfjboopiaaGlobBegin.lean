/-
  THE BEGINNING OF THE TEXTS OF A PATTERN: plain Lean, no program in sight.
-/
import Derived.Test.YtfihccfjboopiaaComLex
namespace Go.Proofs.Ytfihccfjboopiaa.G

/-- Every element has the property. -/
def AllA (Q : El → Prop) (P : List (List El)) : Prop := ∀ a, a ∈ P → ∀ e, e ∈ a → Q e
theorem all_app {Q : El → Prop} : ∀ {acc : List (List El)} {x : El}, AllA Q acc → Q x → AllA Q (app acc x)
  | [], x, _, hx => fun a ha e he => by
    simp only [app, List.mem_singleton] at ha
    subst ha
    simp only [List.mem_singleton] at he
    subst he
    exact hx
  | [l], x, h, hx => fun a ha e he => by
    simp only [app, List.mem_singleton] at ha
    subst ha
    rcases List.mem_append.1 he with he | he
    · exact h l (by simp) e he
    · simp only [List.mem_singleton] at he
      subst he
      exact hx
  | l :: m :: r, x, h, hx => fun a ha e he => by
    rw [app, List.mem_cons] at ha
    rcases ha with rfl | ha
    · exact h a (by simp) e he
    · exact all_app (acc := m :: r) (fun b hb => h b (List.mem_cons_of_mem _ hb)) hx a ha e he
theorem all_bar {Q : El → Prop} {acc : List (List El)} (h : AllA Q acc) : AllA Q (acc ++ [[]]) := fun a ha e he => by
  rcases List.mem_append.1 ha with ha | ha
  · exact h a ha e he
  · simp only [List.mem_singleton] at ha
    subst ha
    cases he
theorem go_all {Q : El → Prop} (hstar : Q starEl) (hany : Q anyEl) (hset : ∀ s : Nat → Bool, (∀ c, s c = true → pr c = true) → Q (setEl s)) (hlit : ∀ c, pr c = true → Q (litEl c)) : ∀ (n : Nat) (st : St) (acc : List (List El)) (p : List Nat) (l : List (List El)), p.length ≤ n → (∀ c, c ∈ p → pr c = true) → AllA Q acc →
    (match st with | .out => True | .set _ _ s => ∀ c, s c = true → pr c = true) → go st acc p = some l → AllA Q l
  | n, .out, acc, [], l, _, _, ha, _, h => by
    have : go .out acc [] = some acc := by simp [go]
    rw [this] at h
    cases h
    exact ha
  | 0, st, acc, c :: r, l, hn, _, _, _, _ => by simp at hn
  | n + 1, .out, acc, c :: r, l, hn, hp, ha, _, h => by
    have hr : ∀ d, d ∈ r → pr d = true := fun d hd => hp d (List.mem_cons_of_mem _ hd)
    have hl : r.length ≤ n := by simpa using hn
    by_cases h1 : c = 124
    · subst h1; rw [go_bar] at h; exact go_all hstar hany hset hlit n .out _ r l hl hr (all_bar ha) trivial h
    · by_cases h2 : c = 42
      · subst h2; rw [go_star] at h; exact go_all hstar hany hset hlit n .out _ r l hl hr (all_app ha hstar) trivial h
      · by_cases h3 : c = 63
        · subst h3; rw [go_any] at h; exact go_all hstar hany hset hlit n .out _ r l hl hr (all_app ha hany) trivial h
        · by_cases h4 : c = 91
          · subst h4
            cases r with
            | nil => simp [go] at h
            | cons d r' =>
              by_cases h5 : d = 33
              · subst h5
                have e : go .out acc (91 :: 33 :: r') = go (.set true true none') acc r' := by simp [go]
                rw [e] at h
                exact go_all hstar hany hset hlit n _ _ r' l (by simp at hl; omega) (fun d hd => hr d (List.mem_cons_of_mem _ hd)) ha (fun c hc => by cases hc) h
              · have e : go .out acc (91 :: d :: r') = go (.set false true none') acc (d :: r') := by simp [go, h5]
                rw [e] at h
                exact go_all hstar hany hset hlit n _ _ (d :: r') l hl hr ha (fun c hc => by cases hc) h
          · rw [go_lit _ _ _ h1 h2 h3 h4] at h
            exact go_all hstar hany hset hlit n .out _ r l hl hr (all_app ha (hlit c (hp c (by simp)))) trivial h
  | n, .set neg first s, acc, [], l, _, _, _, _, h => by rw [go_end] at h; cases h
  | n + 1, .set neg first s, acc, c :: r, l, hn, hp, ha, hs, h => by
    have hr : ∀ d, d ∈ r → pr d = true := fun d hd => hp d (List.mem_cons_of_mem _ hd)
    have hl : r.length ≤ n := by simpa using hn
    by_cases h1 : c = 93
    · subst h1
      rw [go_close] at h
      split at h
      · cases h
      · exact go_all hstar hany hset hlit n .out _ r l hl hr (all_app ha (hset _ (good_fin hs))) trivial h
    · obtain ⟨a, e, k, hm⟩ : ∃ a e k, mem (c :: r) = some (a, e, k) := by
        match r with
        | [] => exact ⟨_, _, _, rfl⟩
        | [d] => exact ⟨_, _, _, rfl⟩
        | d :: x :: r' =>
          rw [mem]
          split <;> exact ⟨_, _, _, rfl⟩
      rw [go_mem hm (by simpa using h1)] at h
      split at h
      · have hk := mem_pos hm
        have hae : pr a = true ∧ pr e = true := by
          match r, hm with
          | [], hm => simp [mem] at hm; obtain ⟨rfl, rfl, _⟩ := hm; exact ⟨hp _ (by simp), hp _ (by simp)⟩
          | [d], hm => simp [mem] at hm; obtain ⟨rfl, rfl, _⟩ := hm; exact ⟨hp _ (by simp), hp _ (by simp)⟩
          | d :: x :: r', hm =>
            rw [mem] at hm
            split at hm
            · simp at hm; obtain ⟨rfl, rfl, _⟩ := hm; exact ⟨hp _ (by simp), hp _ (by simp)⟩
            · simp at hm; obtain ⟨rfl, rfl, _⟩ := hm; exact ⟨hp _ (by simp), hp _ (by simp)⟩
        exact go_all hstar hany hset hlit n _ _ _ l (by simp; omega) (fun d hd => hp d (List.mem_of_mem_drop hd)) ha (good_rng hs hae.1 hae.2) h
      · cases h
termination_by n => n


/-- An element that stands for its own byte, or for no byte of its own. -/
def LitOk (e : El) : Prop := e.lit = 0 ∨ (pr e.lit = true ∧ e.star = false ∧ ∀ c, e.set c = true → c = e.lit)
theorem alts_every {Q : El → Prop} (hstar : Q starEl) (hany : Q anyEl) (hset : ∀ s : Nat → Bool, (∀ c, s c = true → pr c = true) → Q (setEl s)) (hlit : ∀ c, pr c = true → Q (litEl c)) {p : List Nat} {l : List (List El)} (h : alts p = some l) : AllA Q l := by
  unfold alts at h
  split at h
  · rename_i hp
    refine go_all hstar hany hset hlit _ .out [[]] p l (Nat.le_refl _) (fun c hc => List.all_eq_true.1 hp.2 c hc) (fun a ha e he => ?_) trivial h
    simp only [List.mem_singleton] at ha
    subst ha
    cases he
  · cases h
theorem alts_lit {p : List Nat} {l : List (List El)} (h : alts p = some l) : AllA LitOk l :=
  alts_every (.inl rfl) (.inl rfl) (fun _ _ => .inl rfl) (fun c hc => .inr ⟨hc, rfl, fun d hd => by simpa [litEl] using hd⟩) h

/-- The bytes with which the texts of an alternative begin. -/
def litPre : List El → List Nat
  | [] => []
  | e :: l => if e.lit = 0 then [] else e.lit :: litPre l
theorem litPre_nil : litPre [] = [] := rfl
theorem litPre_stop {e : El} {l : List El} (h : e.lit = 0) : litPre (e :: l) = [] := by rw [litPre, if_pos h]
theorem litPre_go {e : El} {l : List El} (h : e.lit ≠ 0) : litPre (e :: l) = e.lit :: litPre l := by rw [litPre, if_neg h]
theorem litPre_len : ∀ l : List El, (litPre l).length ≤ l.length
  | [] => Nat.le_refl _
  | e :: l => by
    rw [litPre]
    split
    · simp
    · have := litPre_len l; simp; omega
/-- What has been read before place k stands for bytes of its own. -/
def LitTo (l : List El) (k : Nat) (acc : List Nat) : Prop := k ≤ l.length ∧ litPre l = acc ++ litPre (l.drop k) ∧ acc.length = k
theorem LitTo.start (l : List El) : LitTo l 0 [] := ⟨by omega, rfl, rfl⟩
theorem LitTo.more {l : List El} {k : Nat} {acc : List Nat} (h : LitTo l k acc) {e : El} (he : l[k]? = some e) (h0 : e.lit ≠ 0) : LitTo l (k + 1) (acc ++ [e.lit]) := by
  obtain ⟨h1, h2, h3⟩ := h
  obtain ⟨hk, hke⟩ := List.getElem?_eq_some_iff.1 he
  refine ⟨hk, ?_, by simp; omega⟩
  rw [h2, List.drop_eq_getElem_cons hk, hke, litPre_go h0, List.append_assoc]
  rfl
theorem LitTo.stop {l : List El} {k : Nat} {acc : List Nat} (h : LitTo l k acc) {e : El} (he : l[k]? = some e) (h0 : e.lit = 0) : litPre l = acc := by
  obtain ⟨h1, h2, h3⟩ := h
  obtain ⟨hk, hke⟩ := List.getElem?_eq_some_iff.1 he
  rw [h2, List.drop_eq_getElem_cons hk, hke, litPre_stop h0, List.append_nil]
theorem LitTo.end_ {l : List El} {acc : List Nat} (h : LitTo l l.length acc) : litPre l = acc := by
  rw [h.2.1, List.drop_length, litPre_nil, List.append_nil]

/-- What two texts begin with. -/
def lcp : List Nat → List Nat → List Nat
  | a :: l, b :: m => if a = b then b :: lcp l m else []
  | _, _ => []
theorem lcp_right : ∀ l m : List Nat, lcp l m <+: m
  | [], m => List.nil_prefix
  | a :: l, [] => List.nil_prefix
  | a :: l, b :: m => by
    rw [lcp]
    split
    · exact List.cons_prefix_cons.2 ⟨rfl, lcp_right l m⟩
    · exact List.nil_prefix
theorem lcp_left : ∀ l m : List Nat, lcp l m <+: l
  | [], m => List.nil_prefix
  | a :: l, [] => List.nil_prefix
  | a :: l, b :: m => by
    rw [lcp]
    split
    · rename_i h
      exact List.cons_prefix_cons.2 ⟨h.symm, lcp_left l m⟩
    · exact List.nil_prefix
/-- As far as place n the two texts are the same. -/
def SameTo (l m : List Nat) (n : Nat) : Prop := n ≤ l.length ∧ n ≤ m.length ∧ lcp l m = m.take n ++ lcp (l.drop n) (m.drop n)
theorem SameTo.start (l m : List Nat) : SameTo l m 0 := ⟨by omega, by omega, rfl⟩
theorem SameTo.more {l m : List Nat} {n : Nat} (h : SameTo l m n) {c : Nat} (hl : l[n]? = some c) (hm : m[n]? = some c) : SameTo l m (n + 1) := by
  obtain ⟨h1, h2, h3⟩ := h
  obtain ⟨hk, e1⟩ := List.getElem?_eq_some_iff.1 hl
  obtain ⟨hj, e2⟩ := List.getElem?_eq_some_iff.1 hm
  refine ⟨hk, hj, ?_⟩
  rw [h3, List.drop_eq_getElem_cons hk, List.drop_eq_getElem_cons hj, e1, e2, lcp, if_pos rfl, List.take_add_one, hm]
  simp
theorem SameTo.other {l m : List Nat} {n : Nat} (h : SameTo l m n) {c d : Nat} (hl : l[n]? = some c) (hm : m[n]? = some d) (hne : c ≠ d) : lcp l m = m.take n := by
  obtain ⟨h1, h2, h3⟩ := h
  obtain ⟨hk, e1⟩ := List.getElem?_eq_some_iff.1 hl
  obtain ⟨hj, e2⟩ := List.getElem?_eq_some_iff.1 hm
  rw [h3, List.drop_eq_getElem_cons hk, List.drop_eq_getElem_cons hj, e1, e2, lcp, if_neg hne, List.append_nil]
theorem SameTo.end_ {l m : List Nat} {n : Nat} (h : SameTo l m n) (he : l.length ≤ n ∨ m.length ≤ n) : lcp l m = m.take n := by
  obtain ⟨h1, h2, h3⟩ := h
  rw [h3]
  rcases he with he | he
  · rw [List.drop_eq_nil_of_le he]; simp [lcp]
  · rw [List.drop_eq_nil_of_le he]
    cases l.drop n <;> simp [lcp]

/-- The beginning of the texts of all alternatives. -/
def preS : List (List El) → List Nat
  | [] => []
  | a :: l => l.foldl (fun s b => lcp (litPre b) s) (litPre a)
theorem foldl_pre : ∀ (l : List (List El)) (s : List Nat), (l.foldl (fun s b => lcp (litPre b) s) s <+: s) ∧ ∀ b, b ∈ l → l.foldl (fun s b => lcp (litPre b) s) s <+: litPre b
  | [], s => ⟨List.prefix_refl s, fun b hb => by cases hb⟩
  | a :: l, s => by
    obtain ⟨h1, h2⟩ := foldl_pre l (lcp (litPre a) s)
    rw [List.foldl_cons]
    refine ⟨h1.trans (lcp_right _ _), fun b hb => ?_⟩
    rcases List.mem_cons.1 hb with rfl | hb
    · exact h1.trans (lcp_left _ _)
    · exact h2 b hb
theorem preS_pre {l : List (List El)} {b : List El} (hb : b ∈ l) : preS l <+: litPre b := by
  cases l with
  | nil => cases hb
  | cons a l =>
    rcases List.mem_cons.1 hb with rfl | hb
    · exact (foldl_pre l _).1
    · exact (foldl_pre l _).2 b hb

end Go.Proofs.Ytfihccfjboopiaa.G
