/-
  PLAIN: the tokens of a written line are the tokens; the tokens of a line can be written. No program in sight.
-/
import Derived.Test.YtofemhaepadggaaDoorLexFormat
namespace Go.Proofs.YtofemhaepadggaaDoor

namespace L
theorem good_parts {x : Tok} (h : good x = true) : x.k ≠ [] ∧ x.k.all letter = true ∧ x.n.all inName = true ∧ opsL.contains x.o = true ∧ x.v.all valB = true ∧ x.v.getLast? ≠ some 92 := by
  unfold good at h
  simp only [Bool.and_eq_true, decide_eq_true_eq] at h
  obtain ⟨⟨⟨⟨⟨h1, h2⟩, h3⟩, h4⟩, h5⟩, h6⟩ := h
  exact ⟨h1, h2, h3, h4, h5, h6⟩
theorem good_of {x : Tok} (h1 : x.k ≠ []) (h2 : x.k.all letter = true) (h3 : x.n.all inName = true) (h4 : opsL.contains x.o = true) (h5 : x.v.all valB = true) (h6 : x.v.getLast? ≠ some 92) : good x = true := by
  unfold good
  rw [decide_eq_true h1, h2, h3, h4, h5, decide_eq_true h6]; rfl
theorem takeWhile_app {p : Nat → Bool} : ∀ {k r : List Nat}, k.all p = true → (∀ c, r.head? = some c → p c = false) → (k ++ r).takeWhile p = k
  | [], [], _, _ => rfl
  | [], c :: r, _, h => by
    rw [List.nil_append, List.takeWhile_cons, h c rfl]; rfl
  | a :: k, r, h1, h2 => by
    rw [List.all_cons, Bool.and_eq_true] at h1
    rw [List.cons_append, List.takeWhile_cons, h1.1, if_pos rfl, takeWhile_app h1.2 h2]
theorem cnt_app {p : Nat → Bool} {k r : List Nat} (h : k.all p = true) (h2 : ∀ c, r.head? = some c → p c = false) : cnt p (k ++ r) = k.length := by
  unfold cnt
  rw [takeWhile_app h h2]
theorem valGo_esc : ∀ (v a r : List Nat), v.all valB = true → v.getLast? ≠ some 92 → valGo a (esc v ++ 34 :: r) = (a ++ v, r, 0)
  | [], a, r, _, _ => by
    show valGo a (34 :: r) = _
    rw [valGo_q, List.append_nil]
  | c :: v, a, r, h, hl => by
    rw [List.all_cons, Bool.and_eq_true] at h
    have hv : v.getLast? ≠ some 92 := by
      cases v with
      | nil => simp
      | cons d v => intro e; exact hl (by rw [List.getLast?_cons_cons]; exact e)
    by_cases hc : c = 34
    · subst hc
      rw [esc, if_pos rfl]
      show valGo a (92 :: 34 :: (esc v ++ 34 :: r)) = _
      rw [valGo_e, valGo_esc v _ r h.2 hv]
      simp
    · rw [esc, if_neg hc]
      show valGo a (c :: (esc v ++ 34 :: r)) = _
      rw [valGo_c a _ c hc (fun e => by subst e; exact absurd h.1 (by decide)) ?_, valGo_esc v _ r h.2 hv]
      · simp
      · by_cases h92 : c = 92
        · subst h92
          cases v with
          | nil => exact absurd rfl hl
          | cons d v =>
            rw [esc]
            split
            · simp [List.isPrefixOf]
            · rename_i hd
              simp [List.isPrefixOf, Ne.symm hd]
        · simp [List.isPrefixOf, Ne.symm h92]
theorem opS_app {o r : List Nat} (h : opsL.contains o = true) : opS (o ++ 34 :: r) = (o, 34 :: r, 0) := by
  have h := List.contains_iff_mem.1 h
  simp only [opsL, List.mem_cons, List.not_mem_nil, or_false] at h
  rcases h with rfl | rfl | rfl | rfl | rfl | rfl <;> simp [opS, opsL, List.isPrefixOf, List.find?]
theorem op_head {o r : List Nat} (h : opsL.contains o = true) (c : Nat) (hc : (o ++ r).head? = some c) : letter c = false ∧ c ≠ 123 := by
  have h := List.contains_iff_mem.1 h
  simp only [opsL, List.mem_cons, List.not_mem_nil, or_false] at h
  rcases h with rfl | rfl | rfl | rfl | rfl | rfl <;> (simp at hc; subst hc; decide)
theorem nameS_other {l : List Nat} (h : ∀ c, l.head? = some c → c ≠ 123) : nameS l = ([], l, 0) := by
  unfold nameS
  split
  · exact absurd rfl (h 123 rfl)
  · rfl
theorem nameS_app {n o r : List Nat} (h : n.all inName = true) (ho : opsL.contains o = true) : nameS ((if n = [] then [] else 123 :: n ++ [125]) ++ (o ++ r)) = (n, o ++ r, 0) := by
  by_cases hn : n = []
  · subst hn
    rw [if_pos rfl, List.nil_append, nameS_other fun c hc => (op_head ho c hc).2]
  · rw [if_neg hn]
    show nameS (123 :: (n ++ [125] ++ (o ++ r))) = _
    have hc : cnt inName (n ++ [125] ++ (o ++ r)) = n.length := by
      rw [List.append_assoc]
      refine cnt_app h fun c hc => ?_
      simp at hc
      subst hc
      decide
    unfold nameS
    simp only
    rw [hc]
    have h1 : ¬ n.length = (n ++ [125] ++ (o ++ r)).length := by simp
    have h2 : ¬ (n.length = 0 ∨ (n ++ [125] ++ (o ++ r))[n.length]? ≠ some 125) := by
      intro e
      rcases e with e | e
      · exact hn (List.eq_nil_of_length_eq_zero e)
      · apply e
        simp
    rw [if_neg h1, if_neg h2]
    refine Prod.ext ?_ (Prod.ext ?_ rfl)
    · simp
    · show (n ++ [125] ++ (o ++ r)).drop (n.length + 1) = _
      have : n.length + 1 = (n ++ [125]).length := by simp
      rw [this, List.drop_left]
/-- The token at the beginning of a written token and more. -/
theorem tokS_one {x : Tok} (hx : good x = true) (r : List Nat) : tokS (one x ++ r) = (x, r, 0) := by
  obtain ⟨h1, h2, h3, h4, h5, h6⟩ := good_parts hx
  have e0 : one x ++ r = x.k ++ ((if x.n = [] then [] else 123 :: x.n ++ [125]) ++ (x.o ++ (34 :: (esc x.v ++ 34 :: r)))) := by
    unfold one
    simp only [List.append_assoc, List.cons_append, List.nil_append]
  have hc : cnt letter (one x ++ r) = x.k.length := by
    rw [e0]
    refine cnt_app h2 fun c hc => ?_
    by_cases hn : x.n = []
    · rw [if_pos hn, List.nil_append] at hc
      exact (op_head h4 c hc).1
    · rw [if_neg hn] at hc
      simp at hc
      subst hc
      decide
  unfold tokS
  rw [hc, if_neg (fun e => h1 (List.eq_nil_of_length_eq_zero e))]
  have ed : (one x ++ r).drop x.k.length = (if x.n = [] then [] else 123 :: x.n ++ [125]) ++ (x.o ++ (34 :: (esc x.v ++ 34 :: r))) := by rw [e0, List.drop_left]
  have et : (one x ++ r).take x.k.length = x.k := by rw [e0, List.take_left]
  rw [ed, et, nameS_app h3 h4]
  simp only [ne_eq, not_true, if_false]
  rw [opS_app h4]
  simp only [not_true]
  have ev : valS (34 :: (esc x.v ++ 34 :: r)) = (x.v, r, 0) := by
    unfold valS
    simp only
    rw [valGo_esc x.v [] r h5 h6, List.nil_append]
  rw [ev]
  simp
/-- A line of written tokens, each with what stands behind it. -/
def wr : List (Tok × List Nat) → List Nat
  | [] => []
  | p :: l => one p.1 ++ (p.2 ++ wr l)
theorem dropWhile_app {p : Nat → Bool} : ∀ {s r : List Nat}, s.all p = true → (∀ c, r.head? = some c → p c = false) → (s ++ r).dropWhile p = r
  | [], [], _, _ => rfl
  | [], c :: r, _, h => by
    rw [List.nil_append, List.dropWhile_cons, h c rfl]; rfl
  | a :: k, r, h1, h2 => by
    rw [List.all_cons, Bool.and_eq_true] at h1
    rw [List.cons_append, List.dropWhile_cons, h1.1, if_pos rfl, dropWhile_app h1.2 h2]
theorem one_head {x : Tok} (hx : good x = true) (r : List Nat) : one x ++ r ≠ [] ∧ ∀ c, (one x ++ r).head? = some c → sepL c = false := by
  obtain ⟨h1, h2, _⟩ := good_parts hx
  unfold one
  cases hk : x.k with
  | nil => exact absurd hk h1
  | cons a k =>
    refine ⟨by simp, fun c hc => ?_⟩
    simp at hc
    subst hc
    rw [hk, List.all_cons, Bool.and_eq_true] at h2
    have h3 := h2.1
    unfold letter at h3
    simp only [Bool.and_eq_true, decide_eq_true_eq] at h3
    unfold sepL
    rw [decide_eq_false (by omega), decide_eq_false (by omega), decide_eq_false (by omega)]
    rfl
theorem tokGo_wr : ∀ (l : List (Tok × List Nat)) (f : Nat) (b : Bool) (s : List Nat) (acc : List Tok), l.length < f → s.all sepL = true → (b = true → s = [] → l = []) →
    (∀ (p : Tok × List Nat), p ∈ l → good p.1 = true ∧ p.2.all sepL = true) → (∀ (a c : List (Tok × List Nat)) (p : Tok × List Nat), l = a ++ p :: c → c ≠ [] → p.2 ≠ []) →
    tokGo f b (s ++ wr l) acc = (acc ++ l.map Prod.fst, 0)
  | [], f, b, s, acc, hf, hs, _, _, _ => by
    obtain ⟨f, rfl⟩ : ∃ g, f = g + 1 := ⟨f - 1, by simp at hf; omega⟩
    rw [tokGo_succ]
    have : (s ++ wr []).dropWhile sepL = [] := dropWhile_app hs (fun c hc => by cases hc)
    rw [this, if_pos rfl]
    simp
  | p :: l, f, b, s, acc, hf, hs, hb, hg, hsep => by
    obtain ⟨f, rfl⟩ : ∃ g, f = g + 1 := ⟨f - 1, by simp at hf; omega⟩
    rw [tokGo_succ]
    obtain ⟨g1, g2⟩ := hg p (by simp)
    obtain ⟨hne, hhd⟩ := one_head g1 (p.2 ++ wr l)
    have hd : (s ++ wr (p :: l)).dropWhile sepL = one p.1 ++ (p.2 ++ wr l) := dropWhile_app hs hhd
    rw [hd, if_neg hne, tokS_one g1]
    rw [if_neg]
    · rw [if_neg (by simp)]
      rw [tokGo_wr l f true p.2 _ (by simp at hf; omega) g2 (fun _ e => by
          cases hl : l with
          | nil => rfl
          | cons q l' => exact absurd e (hsep [] l p rfl (by rw [hl]; simp))) (fun q hq => hg q (by simp [hq])) (fun a c q e => hsep (p :: a) c q (by rw [e]; rfl))]
      simp
    · rintro ⟨e1, e2⟩
      have e5 : (s ++ wr (p :: l)).length = s.length + (wr (p :: l)).length := List.length_append
      have e3 : (wr (p :: l)).length = (one p.1 ++ (p.2 ++ wr l)).length := rfl
      have e4 : s = [] := List.eq_nil_of_length_eq_zero (by omega)
      cases hb e1 e4
theorem all_mono {p q : Nat → Bool} (h : ∀ c, p c = true → q c = true) {l : List Nat} (hl : l.all p = true) : l.all q = true :=
  List.all_eq_true.2 fun c hc => h c (List.all_eq_true.1 hl c hc)
theorem letter_plain (c : Nat) (h : letter c = true) : plainB c = true := by
  unfold letter at h; unfold plainB
  simp only [Bool.and_eq_true, decide_eq_true_eq] at h
  rw [decide_eq_true (show 32 ≤ c by omega), decide_eq_true (show c ≤ 126 by omega)]; simp
theorem inName_plain (c : Nat) (h : inName c = true) : plainB c = true := by
  unfold inName at h; unfold plainB
  simp only [Bool.and_eq_true, decide_eq_true_eq] at h
  rw [decide_eq_true (show 32 ≤ c by omega), decide_eq_true (show c ≤ 126 by omega)]; simp
theorem valB_plain (c : Nat) (h : valB c = true) : plainB c = true := by
  unfold valB at h; unfold plainB
  rw [h]; simp
theorem sep_plain (c : Nat) (h : sepL c = true) : plainB c = true := by
  unfold sepL at h; unfold plainB
  simp only [Bool.or_eq_true, decide_eq_true_eq] at h
  rcases h with (h | h) | h <;> subst h <;> decide
theorem esc_plain : ∀ v : List Nat, v.all plainB = true → (esc v).all plainB = true
  | [], _ => rfl
  | c :: v, h => by
    rw [List.all_cons, Bool.and_eq_true] at h
    have ih := esc_plain v h.2
    unfold esc
    split
    · rw [List.all_cons, List.all_cons, ih]; decide
    · rw [List.all_cons, h.1, ih]; rfl
theorem ops_plain {o : List Nat} (h : opsL.contains o = true) : o.all plainB = true := by
  have h := List.contains_iff_mem.1 h
  simp only [opsL, List.mem_cons, List.not_mem_nil, or_false] at h
  rcases h with rfl | rfl | rfl | rfl | rfl | rfl <;> decide
theorem one_plain {x : Tok} (h : good x = true) : (one x).all plainB = true := by
  obtain ⟨_, h2, h3, h4, h5, _⟩ := good_parts h
  have e1 := all_mono letter_plain h2
  have e2 := all_mono inName_plain h3
  have e3 := ops_plain h4
  have e4 := esc_plain _ (all_mono valB_plain h5)
  have e5 : (if x.n = [] then [] else 123 :: x.n ++ [125] : List Nat).all plainB = true := by
    split
    · rfl
    · rw [List.cons_append, List.all_cons, List.all_append, e2]; decide
  unfold one
  rw [List.append_assoc, List.all_append, List.all_append, List.all_append, List.all_append, List.all_cons, e1, e3, e4, e5]
  decide
theorem wr_plain : ∀ l : List (Tok × List Nat), (∀ p ∈ l, good p.1 = true ∧ p.2.all sepL = true) → (wr l).all plainB = true
  | [], _ => rfl
  | p :: l, h => by
    obtain ⟨h1, h2⟩ := h p (by simp)
    rw [wr, List.all_append, List.all_append, one_plain h1, all_mono sep_plain h2, wr_plain l fun q hq => h q (by simp [hq])]
    rfl
theorem one_pos {x : Tok} (h : good x = true) : 0 < (one x).length := by
  have := (one_head h []).1
  rw [List.append_nil] at this
  exact List.length_pos_iff.2 this
theorem wr_len : ∀ l : List (Tok × List Nat), (∀ p ∈ l, good p.1 = true ∧ p.2.all sepL = true) → l.length ≤ (wr l).length
  | [], _ => Nat.le_refl _
  | p :: l, h => by
    have ih := wr_len l fun q hq => h q (by simp [hq])
    have := one_pos (h p (by simp)).1
    rw [wr, List.length_append, List.length_append, List.length_cons]
    omega
/-- The tokens of a written line. -/
theorem tokensS_wr (s : List Nat) (l : List (Tok × List Nat)) (hs : s.all sepL = true) (hg : ∀ p ∈ l, good p.1 = true ∧ p.2.all sepL = true)
    (hsep : ∀ (a c : List (Tok × List Nat)) (p : Tok × List Nat), l = a ++ p :: c → c ≠ [] → p.2 ≠ []) (hlen : (s ++ wr l).length ≤ 1024) : tokensS (s ++ wr l) = (l.map Prod.fst, 0) := by
  unfold tokensS
  rw [if_neg (by omega), if_neg (by rw [List.all_append, all_mono sep_plain hs, wr_plain l hg]; simp), tokGo_wr l _ false s [] ?_ hs (fun e => by cases e) (fun p hp => hg p hp) hsep]
  · rw [List.nil_append]
  · have := wr_len l hg
    rw [List.length_append]
    omega
/-- The separators of Format. -/
def fsep : List Tok → List (Tok × List Nat)
  | [] => []
  | [x] => [(x, [])]
  | x :: y :: l => (x, [44, 32]) :: fsep (y :: l)
theorem fsep_fst : ∀ l : List Tok, (fsep l).map Prod.fst = l
  | [] => rfl
  | [x] => rfl
  | x :: y :: l => by rw [fsep, List.map_cons, fsep_fst (y :: l)]
theorem fsep_sep : ∀ (l : List Tok) (p : Tok × List Nat), p ∈ fsep l → p.1 ∈ l ∧ p.2.all sepL = true
  | [], p, h => by cases h
  | [x], p, h => by
    simp [fsep] at h
    subst h
    exact ⟨by simp, rfl⟩
  | x :: y :: l, p, h => by
    rw [fsep, List.mem_cons] at h
    rcases h with rfl | h
    · exact ⟨by simp, rfl⟩
    · obtain ⟨h1, h2⟩ := fsep_sep (y :: l) p h
      exact ⟨List.mem_cons_of_mem _ h1, h2⟩
theorem fsep_ne : ∀ (l : List Tok) (a c : List (Tok × List Nat)) (p : Tok × List Nat), fsep l = a ++ p :: c → c ≠ [] → p.2 ≠ []
  | [], a, c, p, h, _ => by
    simp [fsep] at h
  | [x], a, c, p, h, hc => by
    cases a with
    | nil => simp [fsep] at h; exact absurd h.2 hc
    | cons q a => simp [fsep] at h
  | x :: y :: l, a, c, p, h, hc => by
    rw [fsep] at h
    cases a with
    | nil =>
      simp only [List.nil_append, List.cons.injEq] at h
      rw [← h.1]; simp
    | cons q a =>
      simp only [List.cons_append, List.cons.injEq] at h
      exact fsep_ne (y :: l) a c p h.2 hc
theorem sepFirst_cons (x y : List Nat) (l : List (List Nat)) : sepFirst (x :: y :: l) = x ++ ([44, 32] ++ sepFirst (y :: l)) := by
  simp [sepFirst]
theorem wr_fsep : ∀ l : List Tok, wr (fsep l) = sepFirst (l.map one)
  | [] => rfl
  | [x] => by simp [fsep, wr, sepFirst]
  | x :: y :: l => by
    rw [fsep, wr, wr_fsep (y :: l)]
    show _ = sepFirst (one x :: one y :: l.map one)
    rw [sepFirst_cons]
    rfl
/-- The tokens of the line of tokens are these tokens. -/
theorem tokensS_fmt (l : List Tok) (hg : ∀ x ∈ l, good x = true) (hlen : (sepFirst (l.map one)).length ≤ 1024) : tokensS (sepFirst (l.map one)) = (l, 0) := by
  have h := tokensS_wr [] (fsep l) rfl (fun p hp => ⟨hg _ (fsep_sep l p hp).1, (fsep_sep l p hp).2⟩) (fsep_ne l) (by rw [List.nil_append, wr_fsep]; exact hlen)
  rwa [List.nil_append, wr_fsep, fsep_fst] at h
/-! ### The tokens of a line can be written. -/
theorem takeWhile_all (p : Nat → Bool) : ∀ l : List Nat, (l.take (cnt p l)).all p = true
  | [] => rfl
  | c :: l => by
    have ih := takeWhile_all p l
    unfold cnt at *
    rw [List.takeWhile_cons]
    cases hp : p c with
    | false => rfl
    | true => simp [hp, ih]
theorem all_drop {p : Nat → Bool} {l : List Nat} (h : l.all p = true) (n : Nat) : (l.drop n).all p = true :=
  List.all_eq_true.2 fun c hc => List.all_eq_true.1 h c (List.mem_of_mem_drop hc)
theorem nameS_in (l : List Nat) : (nameS l).1.all inName = true ∧ (nameS l).1.length ≤ l.length := by
  unfold nameS
  split
  · split
    · exact ⟨rfl, Nat.zero_le _⟩
    · split
      · exact ⟨rfl, Nat.zero_le _⟩
      · rename_i r _ _
        refine ⟨takeWhile_all inName r, ?_⟩
        simp only [List.length_take, List.length_cons]
        omega
  · exact ⟨rfl, Nat.zero_le _⟩
theorem nameS_rest {p : Nat → Bool} {l : List Nat} (h : l.all p = true) : (nameS l).2.1.all p = true := by
  unfold nameS
  split
  · rename_i r
    rw [List.all_cons, Bool.and_eq_true] at h
    split
    · rfl
    · split
      · rfl
      · exact all_drop h.2 _
  · exact h
theorem opS_in {l : List Nat} (h : (opS l).2.2 = 0) : opsL.contains (opS l).1 = true := by
  unfold opS at *
  cases hf : opsL.find? (fun x => x.isPrefixOf l) with
  | none => rw [hf] at h; cases h
  | some x => exact List.contains_iff_mem.2 (List.mem_of_find?_eq_some hf)
theorem opS_rest {p : Nat → Bool} {l : List Nat} (h : l.all p = true) : (opS l).2.1.all p = true := by
  unfold opS
  cases hf : opsL.find? (fun x => x.isPrefixOf l) with
  | none => rfl
  | some x => exact all_drop h _
theorem ops_len {o : List Nat} (h : opsL.contains o = true) : o.length ≤ 2 := by
  have h := List.contains_iff_mem.1 h
  simp only [opsL, List.mem_cons, List.not_mem_nil, or_false] at h
  rcases h with rfl | rfl | rfl | rfl | rfl | rfl <;> decide
theorem plain_val {c : Nat} (h : plainB c = true) (h9 : c ≠ 9) : valB c = true := by
  unfold plainB at h
  rw [decide_eq_false h9, Bool.false_or] at h
  exact h
theorem last_snoc (a : List Nat) (c : Nat) : (a ++ [c]).getLast? = some c := by simp
theorem valGo_in : ∀ (n : Nat) (a l : List Nat), l.length ≤ n → a.all valB = true → l.all plainB = true → (a.getLast? = some 92 → l.head? ≠ some 34) → (valGo a l).2.2 = 0 →
    (valGo a l).1.all valB = true ∧ (valGo a l).1.getLast? ≠ some 92 ∧ (valGo a l).1.length ≤ a.length + l.length ∧ (valGo a l).2.1.all plainB = true
  | n, a, [], _, _, _, _, h => by
    rw [valGo_nil] at h
    cases h
  | 0, a, c :: l, hn, _, _, _, _ => by simp at hn
  | n + 1, a, c :: l, hn, ha, hl, hi, h => by
    rw [List.all_cons, Bool.and_eq_true] at hl
    simp only [List.length_cons] at hn
    by_cases h34 : c = 34
    · subst h34
      rw [valGo_q] at *
      exact ⟨ha, fun e => hi e rfl, by simp, hl.2⟩
    · by_cases h9 : c = 9
      · subst h9
        rw [valGo_t] at h
        cases h
      · have hv := plain_val hl.1 h9
        cases hp : ([92, 34] : List Nat).isPrefixOf (c :: l) with
        | true =>
          cases l with
          | nil => simp [List.isPrefixOf] at hp
          | cons d r =>
            simp [List.isPrefixOf] at hp
            obtain ⟨rfl, rfl⟩ := hp
            rw [valGo_e] at *
            have hl2 := hl.2
            rw [List.all_cons, Bool.and_eq_true] at hl2
            simp only [List.length_cons] at hn
            obtain ⟨i1, i2, i3, i4⟩ := valGo_in n (a ++ [34]) r (by omega) (by rw [List.all_append, ha]; decide) hl2.2 (fun e => by rw [last_snoc] at e; cases e) h
            refine ⟨i1, i2, ?_, i4⟩
            simp only [List.length_append, List.length_cons, List.length_nil] at i3 ⊢
            omega
        | false =>
          rw [valGo_c a l c h34 h9 hp] at *
          obtain ⟨i1, i2, i3, i4⟩ := valGo_in n (a ++ [c]) l (by omega) (by rw [List.all_append, ha, List.all_cons, hv]; rfl) hl.2 (fun e => by
            rw [last_snoc] at e
            cases e
            intro e2
            cases l with
            | nil => cases e2
            | cons d r =>
              cases e2
              simp [List.isPrefixOf] at hp) h
          refine ⟨i1, i2, ?_, i4⟩
          simp only [List.length_append, List.length_cons, List.length_nil] at i3 ⊢
          omega
theorem valS_in {l : List Nat} (hl : l.all plainB = true) (h : (valS l).2.2 = 0) : (valS l).1.all valB = true ∧ (valS l).1.getLast? ≠ some 92 ∧ (valS l).1.length ≤ l.length ∧ (valS l).2.1.all plainB = true := by
  unfold valS at *
  split at h
  · rename_i r
    rw [List.all_cons, Bool.and_eq_true] at hl
    obtain ⟨i1, i2, i3, i4⟩ := valGo_in r.length [] r (Nat.le_refl _) rfl hl.2 (fun e => by cases e) h
    refine ⟨i1, i2, ?_, i4⟩
    simp only [List.length_nil, List.length_cons] at i3 ⊢
    omega
  · cases h
/-- Tokens whose parts have at most n bytes. -/
def Short (n : Nat) (x : Tok) : Prop := x.k.length ≤ n ∧ x.n.length ≤ n ∧ x.o.length ≤ n + 2 ∧ x.v.length ≤ n
theorem tokS_in {l : List Nat} (hl : l.all plainB = true) (h : (tokS l).2.2 = 0) : good (tokS l).1 = true ∧ Short l.length (tokS l).1 ∧ (tokS l).2.1.all plainB = true := by
  unfold tokS at *
  by_cases h1 : cnt letter l = 0
  · rw [if_pos h1] at h; cases h
  · rw [if_neg h1] at *
    simp only at *
    by_cases h2 : (nameS (l.drop (cnt letter l))).2.2 = 0
    · rw [if_neg (by simp [h2])] at *
      by_cases h3 : (opS (nameS (l.drop (cnt letter l))).2.1).2.2 = 0
      · rw [if_neg (by simp [h3])] at *
        by_cases h4 : (valS (opS (nameS (l.drop (cnt letter l))).2.1).2.1).2.2 = 0
        · rw [if_neg (by simp [h4])] at *
          have hp1 : (nameS (l.drop (cnt letter l))).2.1.all plainB = true := nameS_rest (all_drop hl _)
          have hp2 : (opS (nameS (l.drop (cnt letter l))).2.1).2.1.all plainB = true := opS_rest hp1
          obtain ⟨v1, v2, v3, v4⟩ := valS_in hp2 h4
          obtain ⟨n1, n2⟩ := nameS_in (l.drop (cnt letter l))
          have o1 := opS_in h3
          have l1 := nameS_le (l.drop (cnt letter l))
          have l2 := opS_le (nameS (l.drop (cnt letter l))).2.1
          have l3 := cnt_le letter l
          rw [List.length_drop] at n2 l1
          refine ⟨good_of ?_ (takeWhile_all letter l) n1 o1 v1 v2, ⟨?_, ?_, ?_, ?_⟩, v4⟩
          · intro e
            have e : l.take (cnt letter l) = [] := e
            have : (l.take (cnt letter l)).length = 0 := by rw [e]; rfl
            rw [List.length_take] at this
            omega
          · show (l.take (cnt letter l)).length ≤ _
            rw [List.length_take]; omega
          · show (nameS _).1.length ≤ _
            omega
          · have := ops_len o1
            show (opS _).1.length ≤ _
            omega
          · show (valS _).1.length ≤ _
            omega
        · rw [if_pos (by simpa using h4)] at h
          exact absurd h h4
      · rw [if_pos (by simpa using h3)] at h
        exact absurd h h3
    · rw [if_pos (by simpa using h2)] at h
      exact absurd h h2
theorem dropWhile_all {p q : Nat → Bool} : ∀ {l : List Nat}, l.all p = true → (l.dropWhile q).all p = true
  | [], _ => rfl
  | c :: l, h => by
    rw [List.dropWhile_cons]
    split
    · rw [List.all_cons, Bool.and_eq_true] at h
      exact dropWhile_all h.2
    · exact h
theorem tokGo_in : ∀ (f : Nat) (b : Bool) (l : List Nat) (acc : List Tok) (N : Nat), l.length ≤ N → l.all plainB = true → (∀ x ∈ acc, good x = true ∧ Short N x) → ∀ x ∈ (tokGo f b l acc).1, good x = true ∧ Short N x
  | 0, b, l, acc, N, _, _, _, x, hx => by cases hx
  | f + 1, b, l, acc, N, hN, hl, ha, x, hx => by
    rw [tokGo_succ] at hx
    split at hx
    · exact ha x hx
    · split at hx
      · cases hx
      · split at hx
        · cases hx
        · rename_i h0
          have h0 : (tokS (l.dropWhile sepL)).2.2 = 0 := by simpa using h0
          obtain ⟨g1, g2, g3⟩ := tokS_in (dropWhile_all hl) h0
          have hle := dropWhile_le sepL l
          have hlt := tokS_lt h0
          refine tokGo_in f true _ _ N (by omega) g3 (fun y hy => ?_) x hx
          rcases List.mem_append.1 hy with hy | hy
          · exact ha y hy
          · simp at hy
            subst hy
            refine ⟨g1, ?_⟩
            obtain ⟨s1, s2, s3, s4⟩ := g2
            exact ⟨by omega, by omega, by omega, by omega⟩
theorem tokensS_in (l : List Nat) : ∀ x ∈ (tokensS l).1, good x = true ∧ Short 1024 x := by
  intro x hx
  unfold tokensS at hx
  split at hx
  · cases hx
  · split at hx
    · cases hx
    · rename_i h1 h2
      exact tokGo_in _ _ l [] 1024 (by omega) (by simpa using h2) (fun y hy => by cases hy) x hx
/-- The line of good tokens. -/
theorem fmt_good {l : List Tok} (h : ∀ x ∈ l, good x = true) : fmt l = if 1024 < (sepFirst (l.map one)).length then ([], 81) else (sepFirst (l.map one), 0) := by
  unfold fmt
  rw [if_neg]
  intro e
  rw [List.all_eq_false] at e
  obtain ⟨x, hx, hb⟩ := e
  exact hb (h x hx)
theorem one_len (x : Tok) : (one x).length ≤ x.k.length + x.n.length + x.o.length + 2 * x.v.length + 4 := by
  have := esc_len x.v
  unfold one
  split <;> simp <;> omega
theorem sepFirst_len : ∀ (l : List (List Nat)) (N : Nat), (∀ x ∈ l, x.length ≤ N) → (sepFirst l).length ≤ l.length * (N + 2)
  | [], N, _ => Nat.zero_le _
  | [x], N, h => by
    have := h x (by simp)
    simp [sepFirst]; omega
  | x :: y :: l, N, h => by
    have ih := sepFirst_len (y :: l) N fun z hz => h z (by simp at hz ⊢; right; exact hz)
    have := h x (by simp)
    rw [sepFirst_cons, List.length_append, List.length_append]
    simp only [List.length_cons, List.length_nil] at ih ⊢
    have e : (l.length + 1 + 1) * (N + 2) = (l.length + 1) * (N + 2) + (N + 2) := Nat.succ_mul _ _
    omega
end L
end Go.Proofs.YtofemhaepadggaaDoor
