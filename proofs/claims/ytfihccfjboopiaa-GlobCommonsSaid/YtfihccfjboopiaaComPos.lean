/-
  PLAIN LAW OF COMMON TEXTS, the third part: places in the patterns as numbers. No program in sight.
-/
import Derived.Test.YtfihccfjboopiaaComLex
namespace Go.Proofs.Ytfihccfjboopiaa.G

/-- A place in an alternative of each of two patterns. -/
structure Pos where
  a : Nat
  i : Nat
  b : Nat
  j : Nat
deriving DecidableEq

/-- What stands behind the two places. -/
def prOf (P Q : List (List El)) (x : Pos) : Pr := ((P.getD x.a []).drop x.i, (Q.getD x.b []).drop x.j)
/-- The places are there. -/
def InP (P Q : List (List El)) (x : Pos) : Prop := x.a < P.length ∧ x.b < Q.length ∧ x.i ≤ (P.getD x.a []).length ∧ x.j ≤ (Q.getD x.b []).length
def muOf (P Q : List (List El)) (x : Pos) : Nat := ((P.getD x.a []).length - x.i) + ((Q.getD x.b []).length - x.j)
def cOf (P Q : List (List El)) (x : Pos) : Option Nat := costP (prOf P Q x)

def skip1 (x : Pos) : Pos := ⟨x.a, x.i + 1, x.b, x.j⟩
def skip2 (x : Pos) : Pos := ⟨x.a, x.i, x.b, x.j + 1⟩
def skipsOf (P Q : List (List El)) (x : Pos) : List Pos := (if starts (prOf P Q x).1 then [skip1 x] else []) ++ (if starts (prOf P Q x).2 then [skip2 x] else [])
def nextOf (P Q : List (List El)) (x : Pos) : Pos := ⟨x.a, if starts (prOf P Q x).1 then x.i else x.i + 1, x.b, if starts (prOf P Q x).2 then x.j else x.j + 1⟩
def okOf (P Q : List (List El)) (x : Pos) : Bool := stepOk (prOf P Q x).1 (prOf P Q x).2
/-- The bytes by which one goes on. -/
def bothOf (P Q : List (List El)) (x : Pos) (c : Nat) : Bool := pr c && (headSet (prOf P Q x).1 c && headSet (prOf P Q x).2 c)

theorem starts_drop {l : List El} {i : Nat} : starts (l.drop i) = true → i < l.length ∧ ∃ e, l[i]? = some e ∧ e.star = true ∧ l.drop i = e :: l.drop (i + 1) := by
  intro h
  rcases Nat.lt_or_ge i l.length with hl | hl
  · have he := List.drop_eq_getElem_cons hl
    rw [he] at h
    exact ⟨hl, l[i], List.getElem?_eq_getElem hl, h, he⟩
  · rw [List.drop_eq_nil_of_le hl] at h; cases h
theorem skip_of {P Q : List (List El)} {x y : Pos} (hx : InP P Q x) (h : y ∈ skipsOf P Q x) : InP P Q y ∧ Skip (prOf P Q x) (prOf P Q y) ∧ muOf P Q y < muOf P Q x := by
  unfold skipsOf at h
  obtain ⟨h1, h2, h3, h4⟩ := hx
  rcases List.mem_append.1 h with h | h
  · split at h
    · rename_i hs
      simp only [List.mem_singleton] at h
      subst h
      obtain ⟨hl, e, _, hst, hd⟩ := starts_drop hs
      refine ⟨⟨h1, h2, Nat.succ_le_of_lt hl, h4⟩, ?_, by simp only [muOf, skip1]; omega⟩
      unfold prOf skip1
      dsimp only
      rw [hd]
      exact .left hst
    · cases h
  · split at h
    · rename_i hs
      simp only [List.mem_singleton] at h
      subst h
      obtain ⟨hl, e, _, hst, hd⟩ := starts_drop hs
      refine ⟨⟨h1, h2, h3, Nat.succ_le_of_lt hl⟩, ?_, by simp only [muOf, skip2]; omega⟩
      unfold prOf skip2
      dsimp only
      rw [hd]
      exact .right hst
    · cases h
theorem skip_all {P Q : List (List El)} {x : Pos} {z : Pr} (h : Skip (prOf P Q x) z) : ∃ y, y ∈ skipsOf P Q x ∧ z = prOf P Q y := by
  generalize hp : prOf P Q x = p at h
  cases h with
  | @left e l m he =>
    have h1 : (P.getD x.a []).drop x.i = e :: l := congrArg Prod.fst hp
    have h2 : (Q.getD x.b []).drop x.j = m := congrArg Prod.snd hp
    refine ⟨skip1 x, ?_, ?_⟩
    · unfold skipsOf
      rw [hp, if_pos (show starts (e :: l) = true from he)]
      simp
    · have : (P.getD x.a []).drop (x.i + 1) = l := by
        rw [← List.drop_drop, h1]; rfl
      unfold prOf skip1
      dsimp only
      rw [this, h2]
  | @right e l m he =>
    have h1 : (P.getD x.a []).drop x.i = l := congrArg Prod.fst hp
    have h2 : (Q.getD x.b []).drop x.j = e :: m := congrArg Prod.snd hp
    refine ⟨skip2 x, ?_, ?_⟩
    · unfold skipsOf
      rw [hp, if_pos (show starts (e :: m) = true from he)]
      simp
    · have : (Q.getD x.b []).drop (x.j + 1) = m := by
        rw [← List.drop_drop, h2]; rfl
      unfold prOf skip2
      dsimp only
      rw [this, h1]

theorem stay_drop {l : List El} {i : Nat} (hi : i < l.length) : stay (l.drop i) = l.drop (if starts (l.drop i) then i else i + 1) := by
  have he := List.drop_eq_getElem_cons hi
  by_cases h : starts (l.drop i) = true
  · rw [if_pos h, he]
    rw [he] at h
    rw [stay, if_pos (show (l[i]).star = true from h)]
  · rw [if_neg h, he]
    rw [he] at h
    rw [stay, if_neg (show ¬ (l[i]).star = true from h)]
theorem ok_lt {P Q : List (List El)} {x : Pos} (h : okOf P Q x = true) : x.i < (P.getD x.a []).length ∧ x.j < (Q.getD x.b []).length := by
  unfold okOf prOf at h
  dsimp only at h
  constructor
  · rcases Nat.lt_or_ge x.i (P.getD x.a []).length with hl | hl
    · exact hl
    · rw [List.drop_eq_nil_of_le hl] at h; cases h
  · rcases Nat.lt_or_ge x.j (Q.getD x.b []).length with hl | hl
    · exact hl
    · rw [List.drop_eq_nil_of_le hl] at h
      cases hd : (P.getD x.a []).drop x.i with
      | nil => rw [hd] at h; cases h
      | cons a r => rw [hd] at h; cases h
theorem next_pr {P Q : List (List El)} {x : Pos} (h : okOf P Q x = true) : prOf P Q (nextOf P Q x) = (stay (prOf P Q x).1, stay (prOf P Q x).2) := by
  obtain ⟨h1, h2⟩ := ok_lt h
  unfold prOf nextOf
  dsimp only
  rw [stay_drop h1, stay_drop h2]
  rfl
theorem next_in {P Q : List (List El)} {x : Pos} (hx : InP P Q x) (h : okOf P Q x = true) : InP P Q (nextOf P Q x) ∧ muOf P Q (nextOf P Q x) < muOf P Q x := by
  obtain ⟨h1, h2⟩ := ok_lt h
  obtain ⟨a, b, c, d⟩ := hx
  have hlt := stay_lt h
  have he := next_pr h
  have e1 : (stay (prOf P Q x).1).length = ((P.getD (nextOf P Q x).a []).drop (nextOf P Q x).i).length := (congrArg (fun p : Pr => p.1.length) he).symm
  have e2 : (stay (prOf P Q x).2).length = ((Q.getD (nextOf P Q x).b []).drop (nextOf P Q x).j).length := (congrArg (fun p : Pr => p.2.length) he).symm
  have i1 : (nextOf P Q x).i ≤ x.i + 1 := by simp only [nextOf]; split <;> omega
  have i2 : (nextOf P Q x).j ≤ x.j + 1 := by simp only [nextOf]; split <;> omega
  refine ⟨⟨a, b, ?_, ?_⟩, ?_⟩
  · show (nextOf P Q x).i ≤ (P.getD x.a []).length
    omega
  · show (nextOf P Q x).j ≤ (Q.getD x.b []).length
    omega
  · rw [e1, e2] at hlt
    simp only [List.length_drop] at hlt
    unfold prOf at hlt
    dsimp only at hlt
    simp only [List.length_drop] at hlt
    exact hlt
theorem steps_iff {P Q : List (List El)} (hg : GoodA P) {x : Pos} (hx : x.a < P.length) {c : Nat} {z : Pr} : Steps (prOf P Q x) c z ↔ okOf P Q x = true ∧ bothOf P Q x c = true ∧ z = prOf P Q (nextOf P Q x) := by
  unfold Steps bothOf
  constructor
  · rintro ⟨h1, h2, h3, h4⟩
    refine ⟨h1, ?_, ?_⟩
    · have hp : pr c = true := by
        have hin : P.getD x.a [] ∈ P := by
          rw [List.getD_eq_getElem?_getD, List.getElem?_eq_getElem hx]
          exact List.getElem_mem hx
        cases hd : (prOf P Q x).1 with
        | nil => rw [hd] at h3; cases h3
        | cons e l =>
          rw [hd] at h3
          have : e ∈ P.getD x.a [] := List.mem_of_mem_drop (i := x.i) (by
            show e ∈ (prOf P Q x).1
            rw [hd]; simp)
          exact (hg _ hin e this).1 c h3
      rw [hp, h3, h4]; rfl
    · rw [h2, next_pr h1]
  · rintro ⟨h1, h2, h3⟩
    simp only [Bool.and_eq_true] at h2
    exact ⟨h1, by rw [h3, next_pr h1], h2.2.1, h2.2.2⟩
theorem both_some {P Q : List (List El)} {x : Pos} (h : okOf P Q x = true) : ∃ c, bothOf P Q x c = true := by
  unfold okOf at h
  unfold bothOf
  match hl : (prOf P Q x).1, hm : (prOf P Q x).2 with
  | [], _ => rw [hl] at h; cases h
  | _ :: _, [] => rw [hl, hm] at h; cases h
  | a :: l, b :: m =>
    rw [hl, hm] at h
    simp only [stepOk, Bool.and_eq_true] at h
    obtain ⟨c, h1, h2, h3⟩ := (some2_iff a b).1 h.2
    exact ⟨c, by simp [headSet, h1, h2, h3]⟩

/-- The program's number for 'how many bytes'. -/
def toI : Option Nat → Int
  | none => -1
  | some n => n
/-- What 'less' makes of the best number so far. -/
def lessI (best n : Int) : Int := if 0 ≤ n ∧ (best < 0 ∨ n < best) then n else best
theorem lessI_omin (x y : Option Nat) : lessI (toI x) (toI y) = toI (omin x y) := by
  cases x with
  | none =>
    cases y with
    | none => rfl
    | some b => simp [lessI, toI, omin]
  | some a =>
    cases y with
    | none => simp [lessI, toI, omin]
    | some b =>
      show (if 0 ≤ (b : Int) ∧ ((a : Int) < 0 ∨ (b : Int) < (a : Int)) then (b : Int) else (a : Int)) = ((if b < a then b else a : Nat) : Int)
      by_cases h : b < a
      · rw [if_pos (by omega), if_pos h]
      · rw [if_neg (by omega), if_neg h]
theorem toI_ge (x : Option Nat) : -1 ≤ toI x := by
  cases x with
  | none => simp [toI]
  | some n => simp only [toI]; omega

/-- What 'cost' reckons. -/
theorem cOf_eq (P Q : List (List El)) {x : Pos} (hx : InP P Q x) :
    toI (cOf P Q x) = lessI ((skipsOf P Q x).foldl (fun best y => lessI best (toI (cOf P Q y))) (if x.i = (P.getD x.a []).length ∧ x.j = (Q.getD x.b []).length then 0 else -1))
      (if okOf P Q x then (if 0 ≤ toI (cOf P Q (nextOf P Q x)) then toI (cOf P Q (nextOf P Q x)) + 1 else -1) else -1) := by
  obtain ⟨h1, h2, h3, h4⟩ := hx
  have e0 : (if x.i = (P.getD x.a []).length ∧ x.j = (Q.getD x.b []).length then (0 : Int) else -1) = toI (if (prOf P Q x).1 = [] ∧ (prOf P Q x).2 = [] then some 0 else none) := by
    have : ((prOf P Q x).1 = [] ∧ (prOf P Q x).2 = []) ↔ (x.i = (P.getD x.a []).length ∧ x.j = (Q.getD x.b []).length) := by
      unfold prOf
      simp only [List.drop_eq_nil_iff]
      omega
    by_cases h : x.i = (P.getD x.a []).length ∧ x.j = (Q.getD x.b []).length
    · rw [if_pos h, if_pos (this.2 h)]; rfl
    · rw [if_neg h, if_neg (fun e => h (this.1 e))]; rfl
  have e3 : (if okOf P Q x then (if 0 ≤ toI (cOf P Q (nextOf P Q x)) then toI (cOf P Q (nextOf P Q x)) + 1 else -1) else -1) = toI (if _h : stepOk (prOf P Q x).1 (prOf P Q x).2 = true then (cost (stay (prOf P Q x).1) (stay (prOf P Q x).2)).map (· + 1) else none) := by
    by_cases h : okOf P Q x = true
    · rw [if_pos h, dif_pos (show stepOk (prOf P Q x).1 (prOf P Q x).2 = true from h)]
      unfold cOf costP
      rw [next_pr h]
      cases cost (stay (prOf P Q x).1) (stay (prOf P Q x).2) with
      | none => rfl
      | some n =>
        show (if 0 ≤ (n : Int) then (n : Int) + 1 else -1) = ((n + 1 : Nat) : Int)
        rw [if_pos (by omega)]
        rfl
    · rw [if_neg h, dif_neg (show ¬ stepOk (prOf P Q x).1 (prOf P Q x).2 = true from h)]; rfl
  have es : ∀ best : Option Nat, (skipsOf P Q x).foldl (fun best y => lessI best (toI (cOf P Q y))) (toI best) =
      toI (omin (omin best (if _h : starts (prOf P Q x).1 = true then cost (prOf P Q x).1.tail (prOf P Q x).2 else none)) (if _h : starts (prOf P Q x).2 = true then cost (prOf P Q x).1 (prOf P Q x).2.tail else none)) := by
    intro best
    have on : ∀ y : Option Nat, omin y none = y := fun y => by cases y <;> rfl
    have k1 : starts (prOf P Q x).1 = true → cOf P Q (skip1 x) = cost (prOf P Q x).1.tail (prOf P Q x).2 := fun h => by
      obtain ⟨_, e, _, _, hd⟩ := starts_drop h
      unfold cOf costP prOf skip1
      dsimp only
      rw [hd]; rfl
    have k2 : starts (prOf P Q x).2 = true → cOf P Q (skip2 x) = cost (prOf P Q x).1 (prOf P Q x).2.tail := fun h => by
      obtain ⟨_, e, _, _, hd⟩ := starts_drop h
      unfold cOf costP prOf skip2
      dsimp only
      rw [hd]; rfl
    unfold skipsOf
    by_cases a : starts (prOf P Q x).1 = true
    · by_cases b : starts (prOf P Q x).2 = true
      · rw [if_pos a, if_pos b, dif_pos a, dif_pos b]
        simp only [List.cons_append, List.nil_append, List.foldl_cons, List.foldl_nil]
        rw [lessI_omin, lessI_omin, k1 a, k2 b]
      · rw [if_pos a, if_neg b, dif_pos a, dif_neg b]
        simp only [List.append_nil, List.foldl_cons, List.foldl_nil]
        rw [lessI_omin, k1 a, on]
    · by_cases b : starts (prOf P Q x).2 = true
      · rw [if_neg a, if_pos b, dif_neg a, dif_pos b]
        simp only [List.nil_append, List.foldl_cons, List.foldl_nil]
        rw [lessI_omin, k2 b, on]
      · rw [if_neg a, if_neg b, dif_neg a, dif_neg b]
        simp only [List.append_nil, List.foldl_nil]
        rw [on, on]
  rw [e0, e3, es, lessI_omin]
  have : cOf P Q x = cost (prOf P Q x).1 (prOf P Q x).2 := rfl
  rw [this, cost]

theorem cost_le : ∀ (N : Nat) (l m : List El) (n : Nat), l.length + m.length ≤ N → cost l m = some n → n ≤ l.length + m.length
  | N, l, m, n, hN, hn => by
    rw [cost] at hn
    rcases omin_some hn with hn | hn
    · rcases omin_some hn with hn | hn
      · rcases omin_some hn with hn | hn
        · split at hn
          · cases hn; omega
          · cases hn
        · split at hn
          · rename_i h
            cases l with
            | nil => cases h
            | cons a l =>
              cases N with
              | zero => simp at hN
              | succ N =>
                have := cost_le N l m n (by simp at hN; omega) hn
                simp; omega
          · cases hn
      · split at hn
        · rename_i h
          cases m with
          | nil => cases h
          | cons a m =>
            cases N with
            | zero => simp at hN
            | succ N =>
              have := cost_le N l m n (by simp at hN; omega) hn
              simp; omega
        · cases hn
    · split at hn
      · rename_i h
        have hlt := stay_lt h
        cases hc : cost (stay l) (stay m) with
        | none => rw [hc] at hn; cases hn
        | some k =>
          rw [hc] at hn
          simp only [Option.map_some, Option.some.injEq] at hn
          cases N with
          | zero => omega
          | succ N =>
            have := cost_le N _ _ k (by omega) hc
            omega
      · cases hn
theorem toI_le (P Q : List (List El)) (x : Pos) : toI (cOf P Q x) ≤ (muOf P Q x : Nat) := by
  cases h : cOf P Q x with
  | none => simp only [toI]; omega
  | some n =>
    have := cost_le _ _ _ n (Nat.le_refl _) h
    simp only [toI, muOf]
    unfold prOf at this
    simp only [List.length_drop] at this
    omega

end Go.Proofs.Ytfihccfjboopiaa.G
