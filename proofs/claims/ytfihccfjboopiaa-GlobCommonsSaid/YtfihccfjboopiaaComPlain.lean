/-
  PLAIN LAW OF COMMON TEXTS: runs of two lists of elements side by side, the least number of bytes of a run, the least text. No program in sight.
-/
import Derived.Test.YtfihccfjboopiaaGlobMatch
namespace Go.Proofs.Ytfihccfjboopiaa.G

/-- An element whose bytes are all from 32 to 126; a star's are all of them. -/
def Good (e : El) : Prop := (∀ c, e.set c = true → pr c = true) ∧ (e.star = true → e.set = pr)

/-- Two lists of elements match a text side by side, and never do both eat a byte by a star. -/
inductive Run : List El → List El → List Nat → Prop
  | done : Run [] [] []
  | left {e : El} {l m : List El} {s : List Nat} : e.star = true → Run l m s → Run (e :: l) m s
  | right {e : El} {l m : List El} {s : List Nat} : e.star = true → Run l m s → Run l (e :: m) s
  | byte {a b : El} {l m : List El} {c : Nat} {s : List Nat} : (a.star && b.star) = false → a.set c = true → b.set c = true → Run (if a.star then a :: l else l) (if b.star then b :: m else m) s → Run (a :: l) (b :: m) (c :: s)

theorem starM_now {f : List Nat → Bool} {s : List Nat} (h : f s = true) : starM f s = true := by
  cases s with
  | nil => exact h
  | cons c s => simp [starM, h]
theorem mt_s {e : El} (he : e.star = true) (l : List El) (s : List Nat) : mt (e :: l) s = starM (mt l) s := by simp [mt, he]
theorem mt_skip {e : El} (he : e.star = true) {l : List El} {s : List Nat} (h : mt l s = true) : mt (e :: l) s = true := by
  rw [mt_s he]; exact starM_now h
theorem mt_eat {e : El} {l : List El} {c : Nat} {s : List Nat} (hc : e.set c = true) (h : mt (if e.star then e :: l else l) s = true) : mt (e :: l) (c :: s) = true := by
  by_cases he : e.star = true
  · rw [if_pos he] at h
    rw [mt_s he] at h ⊢
    rw [starM, h]; simp
  · have he' : e.star = false := by simpa using he
    rw [he'] at h
    rw [mt_one he', hc]
    simpa using h

theorem Run.mts {l m : List El} {s : List Nat} (h : Run l m s) : mt l s = true ∧ mt m s = true := by
  induction h with
  | done => exact ⟨rfl, rfl⟩
  | left he _ ih => exact ⟨mt_skip he ih.1, ih.2⟩
  | right he _ ih => exact ⟨ih.1, mt_skip he ih.2⟩
  | byte _ ha hb _ ih => exact ⟨mt_eat ha ih.1, mt_eat hb ih.2⟩
theorem Run.printable {l m : List El} {s : List Nat} (h : Run l m s) (hl : ∀ e, e ∈ l → Good e) : s.all pr = true := by
  induction h with
  | done => rfl
  | left _ _ ih => exact ih fun e he => hl e (List.mem_cons_of_mem _ he)
  | right _ _ ih => exact ih hl
  | @byte a b l m c s _ ha _ _ ih =>
    rw [List.all_cons, (hl a (by simp)).1 c ha]
    refine (Bool.true_and _).trans (ih fun e he => ?_)
    by_cases h : a.star = true
    · rw [if_pos h] at he; exact hl e he
    · rw [if_neg h] at he; exact hl e (List.mem_cons_of_mem _ he)

/-- What two lists match has a run, of that text or of a shorter one. -/
theorem run_of : ∀ (n : Nat) (l m : List El) (s : List Nat), l.length + m.length + s.length ≤ n → (∀ e, e ∈ l → Good e) → (∀ e, e ∈ m → Good e) → s.all pr = true → mt l s = true → mt m s = true → ∃ t, Run l m t ∧ (t = s ∨ t.length < s.length)
  | 0, l, m, s, hn, _, _, _, _, _ => by
    obtain rfl : l = [] := List.eq_nil_of_length_eq_zero (by omega)
    obtain rfl : m = [] := List.eq_nil_of_length_eq_zero (by omega)
    obtain rfl : s = [] := List.eq_nil_of_length_eq_zero (by omega)
    exact ⟨[], .done, .inl rfl⟩
  | n + 1, l, m, s, hn, hl, hm, hs, h1, h2 => by
    have goL : ∀ (a : El) (l' : List El), l = a :: l' → a.star = true → mt l' s = true → ∃ t, Run l m t ∧ (t = s ∨ t.length < s.length) := by
      rintro a l' rfl ha h
      obtain ⟨t, ht, hx⟩ := run_of n l' m s (by simp at hn; omega) (fun e he => hl e (List.mem_cons_of_mem _ he)) hm hs h h2
      exact ⟨t, .left ha ht, hx⟩
    have goR : ∀ (b : El) (m' : List El), m = b :: m' → b.star = true → mt m' s = true → ∃ t, Run l m t ∧ (t = s ∨ t.length < s.length) := by
      rintro b m' rfl hb h
      obtain ⟨t, ht, hx⟩ := run_of n l m' s (by simp at hn; omega) hl (fun e he => hm e (List.mem_cons_of_mem _ he)) hs h1 h
      exact ⟨t, .right hb ht, hx⟩
    cases s with
    | nil =>
      cases l with
      | cons a l' =>
        by_cases ha : a.star = true
        · refine goL a l' rfl ha ?_
          rw [mt_s ha] at h1
          exact h1
        · rw [mt_one_nil (by simpa using ha)] at h1; cases h1
      | nil =>
        cases m with
        | nil => exact ⟨[], .done, .inl rfl⟩
        | cons b m' =>
          by_cases hb : b.star = true
          · refine goR b m' rfl hb ?_
            rw [mt_s hb] at h2
            exact h2
          · rw [mt_one_nil (by simpa using hb)] at h2; cases h2
    | cons c s =>
      cases l with
      | nil => cases h1
      | cons a l' =>
        cases m with
        | nil => cases h2
        | cons b m' =>
          rw [List.all_cons, Bool.and_eq_true] at hs
          -- each side: skip, or eat the byte
          have hA : (a.star = true ∧ mt l' (c :: s) = true) ∨ (a.set c = true ∧ mt (if a.star then a :: l' else l') s = true) := by
            by_cases ha : a.star = true
            · rw [mt_s ha, starM, Bool.or_eq_true] at h1
              rcases h1 with h | h
              · exact .inl ⟨ha, h⟩
              · refine .inr ⟨by rw [(hl a (by simp)).2 ha]; exact hs.1, ?_⟩
                rw [if_pos ha, mt_s ha]; exact h
            · rw [mt_one (by simpa using ha), Bool.and_eq_true] at h1
              exact .inr ⟨h1.1, by rw [if_neg ha]; exact h1.2⟩
          have hB : (b.star = true ∧ mt m' (c :: s) = true) ∨ (b.set c = true ∧ mt (if b.star then b :: m' else m') s = true) := by
            by_cases hb : b.star = true
            · rw [mt_s hb, starM, Bool.or_eq_true] at h2
              rcases h2 with h | h
              · exact .inl ⟨hb, h⟩
              · refine .inr ⟨by rw [(hm b (by simp)).2 hb]; exact hs.1, ?_⟩
                rw [if_pos hb, mt_s hb]; exact h
            · rw [mt_one (by simpa using hb), Bool.and_eq_true] at h2
              exact .inr ⟨h2.1, by rw [if_neg hb]; exact h2.2⟩
          rcases hA with ⟨ha, h⟩ | ⟨ha, hla⟩
          · exact goL a l' rfl ha h
          · rcases hB with ⟨hb, h⟩ | ⟨hb, hmb⟩
            · exact goR b m' rfl hb h
            · have gl : ∀ e, e ∈ (if a.star then a :: l' else l') → Good e := fun e he => by
                by_cases h : a.star = true
                · rw [if_pos h] at he; exact hl e he
                · rw [if_neg h] at he; exact hl e (List.mem_cons_of_mem _ he)
              have gm : ∀ e, e ∈ (if b.star then b :: m' else m') → Good e := fun e he => by
                by_cases h : b.star = true
                · rw [if_pos h] at he; exact hm e he
                · rw [if_neg h] at he; exact hm e (List.mem_cons_of_mem _ he)
              have len : ∀ (x : El) (k : List El), (if x.star then x :: k else k).length ≤ k.length + 1 := fun x k => by
                by_cases h : x.star = true
                · rw [if_pos h]; simp
                · rw [if_neg h]; simp
              have la := len a l'
              have lb := len b m'
              obtain ⟨t, ht, hx⟩ := run_of n _ _ s (by simp at hn; omega) gl gm hs.2 hla hmb
              by_cases hab : (a.star && b.star) = false
              · refine ⟨c :: t, .byte hab ha hb ht, ?_⟩
                rcases hx with rfl | hx
                · exact .inl rfl
                · exact .inr (by simpa using hx)
              · simp only [Bool.not_eq_false, Bool.and_eq_true] at hab
                rw [if_pos hab.1, if_pos hab.2] at ht
                refine ⟨t, ht, .inr ?_⟩
                rcases hx with rfl | hx
                · simp
                · simp; omega

/-! HOW MANY BYTES A RUN HAS AT LEAST. -/
def omin : Option Nat → Option Nat → Option Nat
  | none, y => y
  | some a, none => some a
  | some a, some b => some (if b < a then b else a)

/-- Some byte from 32 to 126 is in both sets. -/
def some2 (a b : El) : Bool := (List.range 95).any fun i => a.set (32 + i) && b.set (32 + i)
theorem some2_iff (a b : El) : some2 a b = true ↔ ∃ c, pr c = true ∧ a.set c = true ∧ b.set c = true := by
  simp only [some2, List.any_eq_true, List.mem_range, Bool.and_eq_true, pr, decide_eq_true_eq]
  constructor
  · rintro ⟨i, hi, h1, h2⟩; exact ⟨32 + i, by omega, h1, h2⟩
  · rintro ⟨c, hc, h1, h2⟩; exact ⟨c - 32, by omega, by rw [show 32 + (c - 32) = c from by omega]; exact h1, by rw [show 32 + (c - 32) = c from by omega]; exact h2⟩

/-- Whether one byte leads on. -/
def stepOk : List El → List El → Bool
  | a :: _, b :: _ => !(a.star && b.star) && some2 a b
  | _, _ => false
def stay : List El → List El
  | a :: l => if a.star then a :: l else l
  | [] => []
def starts : List El → Bool
  | a :: _ => a.star
  | [] => false

theorem stay_len (l : List El) : (stay l).length ≤ l.length := by
  cases l with
  | nil => simp [stay]
  | cons a l => rw [stay]; split <;> simp
theorem stay_lt {l m : List El} (h : stepOk l m = true) : (stay l).length + (stay m).length < l.length + m.length := by
  match l, m with
  | [], _ => cases h
  | _ :: _, [] => cases h
  | a :: l, b :: m =>
    simp only [stepOk, Bool.and_eq_true, Bool.not_eq_true', Bool.and_eq_false_iff] at h
    have h1 := stay_len (a :: l)
    have h2 := stay_len (b :: m)
    rcases h.1 with h | h
    · have : (stay (a :: l)).length = l.length := by simp [stay, h]
      simp at h2 ⊢; omega
    · have : (stay (b :: m)).length = m.length := by simp [stay, h]
      simp at h1 ⊢; omega

/-- The least number of bytes of a run. -/
def cost (l m : List El) : Option Nat :=
  omin (omin (omin (if l = [] ∧ m = [] then some 0 else none)
    (if _h : starts l = true then cost l.tail m else none))
    (if _h : starts m = true then cost l m.tail else none))
    (if _h : stepOk l m = true then (cost (stay l) (stay m)).map (· + 1) else none)
termination_by l.length + m.length
decreasing_by
  · cases l with
    | nil => contradiction
    | cons a l => simp
  · cases m with
    | nil => contradiction
    | cons a l => simp
  · exact stay_lt (by assumption)

/-- n is the least length of the runs of l and m; none: there is none. -/
def IsCost (l m : List El) (o : Option Nat) : Prop := (∀ n, o = some n → ∃ s, Run l m s ∧ s.length = n) ∧ ∀ s, Run l m s → ∃ n, o = some n ∧ n ≤ s.length

theorem omin_some {x y : Option Nat} {n : Nat} (h : omin x y = some n) : x = some n ∨ y = some n := by
  cases x with
  | none => exact .inr h
  | some a =>
    cases y with
    | none => exact .inl h
    | some b =>
      simp only [omin, Option.some.injEq] at h
      split at h
      · exact .inr (by rw [h])
      · exact .inl (by rw [h])
theorem omin_le_left {x y : Option Nat} {n k : Nat} (h : x = some n) (hk : n ≤ k) : ∃ r, omin x y = some r ∧ r ≤ k := by
  subst h
  cases y with
  | none => exact ⟨n, rfl, hk⟩
  | some b =>
    refine ⟨_, rfl, ?_⟩
    split <;> omega
theorem omin_le_right {x y : Option Nat} {n k : Nat} (h : y = some n) (hk : n ≤ k) : ∃ r, omin x y = some r ∧ r ≤ k := by
  subst h
  cases x with
  | none => exact ⟨n, rfl, hk⟩
  | some b =>
    refine ⟨_, rfl, ?_⟩
    split <;> omega
theorem omin_left {x y : Option Nat} {k : Nat} (h : ∃ r, x = some r ∧ r ≤ k) : ∃ r, omin x y = some r ∧ r ≤ k := by
  obtain ⟨r, h, hk⟩ := h
  exact omin_le_left h hk
theorem omin_right {x y : Option Nat} {k : Nat} (h : ∃ r, y = some r ∧ r ≤ k) : ∃ r, omin x y = some r ∧ r ≤ k := by
  obtain ⟨r, h, hk⟩ := h
  exact omin_le_right h hk

theorem cost_is : ∀ (N : Nat) (l m : List El), l.length + m.length ≤ N → (∀ e, e ∈ l → Good e) → IsCost l m (cost l m)
  | N, l, m, hN, hl => by
    have ihl : starts l = true → IsCost l.tail m (cost l.tail m) := fun h => by
      cases l with
      | nil => cases h
      | cons a l => 
        cases N with
        | zero => simp at hN
        | succ N => exact cost_is N l m (by simp at hN; omega) fun e he => hl e (List.mem_cons_of_mem _ he)
    have ihm : starts m = true → IsCost l m.tail (cost l m.tail) := fun h => by
      cases m with
      | nil => cases h
      | cons a m => 
        cases N with
        | zero => simp at hN
        | succ N => exact cost_is N l m (by simp at hN; omega) hl
    have ihs : stepOk l m = true → IsCost (stay l) (stay m) (cost (stay l) (stay m)) := fun h => by
      have := stay_lt h
      cases N with
      | zero => omega
      | succ N =>
        refine cost_is N _ _ (by omega) fun e he => ?_
        cases l with
        | nil => cases he
        | cons a l =>
          rw [stay] at he
          split at he
          · exact hl e he
          · exact hl e (List.mem_cons_of_mem _ he)
    rw [cost]
    constructor
    · intro n hn
      rcases omin_some hn with hn | hn
      · rcases omin_some hn with hn | hn
        · rcases omin_some hn with hn | hn
          · split at hn
            · rename_i h
              obtain ⟨rfl, rfl⟩ := h
              cases hn
              exact ⟨[], .done, rfl⟩
            · cases hn
          · split at hn
            · rename_i h
              obtain ⟨s, hs, he⟩ := (ihl h).1 n hn
              cases l with
              | nil => cases h
              | cons a l => exact ⟨s, .left h hs, he⟩
            · cases hn
        · split at hn
          · rename_i h
            obtain ⟨s, hs, he⟩ := (ihm h).1 n hn
            cases m with
            | nil => cases h
            | cons a m => exact ⟨s, .right h hs, he⟩
          · cases hn
      · split at hn
        · rename_i h
          cases hc : cost (stay l) (stay m) with
          | none => rw [hc] at hn; cases hn
          | some k =>
            rw [hc] at hn
            simp only [Option.map_some, Option.some.injEq] at hn
            obtain ⟨s, hs, he⟩ := (ihs h).1 k hc
            match l, m with
            | [], _ => cases h
            | _ :: _, [] => cases h
            | a :: l, b :: m =>
              simp only [stepOk, Bool.and_eq_true, Bool.not_eq_true'] at h
              obtain ⟨c, _, h1, h2⟩ := (some2_iff a b).1 h.2
              exact ⟨c :: s, .byte h.1 h1 h2 hs, by simp; omega⟩
        · cases hn
    · intro s hs
      cases hs with
      | done => exact omin_left (omin_left (omin_left ⟨0, by simp, by simp⟩))
      | @left e l m s he hr =>
        refine omin_left (omin_left (omin_right ?_))
        rw [dif_pos (show starts (e :: l) = true from he)]
        exact (ihl he).2 s hr
      | @right e l m s he hr =>
        refine omin_left (omin_right ?_)
        rw [dif_pos (show starts (e :: m) = true from he)]
        exact (ihm he).2 s hr
      | @byte a b l m c s hab h1 h2 hr =>
        refine omin_right ?_
        have hok : stepOk (a :: l) (b :: m) = true := by
          simp only [stepOk, Bool.and_eq_true, Bool.not_eq_true']
          exact ⟨hab, (some2_iff a b).2 ⟨c, (hl a (by simp)).1 c h1, h1, h2⟩⟩
        rw [dif_pos hok]
        obtain ⟨n, hn, hle⟩ := (ihs hok).2 s hr
        exact ⟨n + 1, by rw [hn]; rfl, by simpa using hle⟩

theorem IsCost.eq {l m : List El} {o o' : Option Nat} (h : IsCost l m o) (h' : IsCost l m o') : o = o' := by
  cases o with
  | none =>
    cases o' with
    | none => rfl
    | some n =>
      obtain ⟨s, hs, _⟩ := h'.1 n rfl
      obtain ⟨k, hk, _⟩ := h.2 s hs
      cases hk
  | some n =>
    obtain ⟨s, hs, rfl⟩ := h.1 n rfl
    obtain ⟨k, rfl, hk⟩ := h'.2 s hs
    obtain ⟨t, ht, rfl⟩ := h'.1 k rfl
    obtain ⟨j, hj, hjk⟩ := h.2 t ht
    cases hj
    rw [Nat.le_antisymm hjk hk]

end Go.Proofs.Ytfihccfjboopiaa.G
