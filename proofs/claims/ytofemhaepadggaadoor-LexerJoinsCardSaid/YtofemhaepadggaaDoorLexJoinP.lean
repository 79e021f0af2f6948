/-
  THE PLAIN LAW behind LexerJoins: the lines of two texts, and those of both. No program in sight.
-/
import Derived.Test.YtofemhaepadggaaDoorLexLinesFn
namespace Go.Proofs.YtofemhaepadggaaDoor

theorem sp_one : ∀ {l : List UInt8}, sp l = [[]] → l = []
  | [], _ => rfl
  | c :: l, h => by
    unfold sp at h
    split at h
    · simp only [List.cons.injEq, true_and] at h
      exact absurd h (sp_ne l)
    · simp at h
theorem sp_last : ∀ (l x : List UInt8), (sp l).getLast? = some x → x.getLast? = some 92 → l.getLast? = some 92
  | [], x, h, hx => by
    simp [sp] at h
    subst h
    cases hx
  | c :: l, x, h, hx => by
    have ih := sp_last l
    have hne := sp_ne l
    have hl : ∀ {m : List UInt8}, m.getLast? = some 92 → (c :: m).getLast? = some 92 := fun {m} hm => by
      cases m with
      | nil => cases hm
      | cons a t => rw [List.getLast?_cons_cons]; exact hm
    unfold sp at h
    split at h
    · rename_i hc
      cases hs : sp l with
      | nil => exact absurd hs hne
      | cons a t =>
        rw [hs, List.getLast?_cons_cons, ← hs] at h
        exact hl (ih x h hx)
    · cases hs : sp l with
      | nil => exact absurd hs hne
      | cons a t =>
        rw [hs] at h ih
        simp only [List.headD_cons, List.tail_cons] at h
        cases t with
        | nil =>
          simp at h
          subst h
          cases a with
          | nil =>
            have : l = [] := sp_one hs
            subst this
            exact hx
          | cons b u =>
            rw [List.getLast?_cons_cons] at hx
            exact hl (ih (b :: u) (by simp) hx)
        | cons b u =>
          rw [List.getLast?_cons_cons] at h
          exact hl (ih x (by rw [List.getLast?_cons_cons]; exact h) hx)
theorem pieces_last (a : ByteArray) (ha : lastB a = false) (z : ByteArray) (hz : (pieces a).getLast? = some z) : lastB z = false := by
  rcases hb : lastB z with _ | _
  · rfl
  · have h1 := of_decide_eq_true hb
    have h2 : (sp a.data.toList).getLast? = some z.data.toList := by
      rw [← pieces_data, List.getLast?_map, hz]; rfl
    have h3 := sp_last _ _ h2 h1
    have h4 : lastB a = true := decide_eq_true h3
    rw [h4] at ha
    cases ha

theorem grp_app : ∀ (A B : List ByteArray), A ≠ [] → (∀ z, A.getLast? = some z → lastB z = false) → grp (A ++ B) = grp A
  | [], B, h, _ => absurd rfl h
  | x :: r, B, _, hl => by
    cases hx : lastB x with
    | false => rw [List.cons_append, grp_no hx, grp_no hx]
    | true =>
      rw [List.cons_append, grp_yes hx, grp_yes hx]
      have hr : r ≠ [] := by
        rintro rfl
        have := hl x rfl
        rw [hx] at this
        cases this
      have hl' : ∀ z, r.getLast? = some z → lastB z = false := fun z hz => hl z (by
        cases r with
        | nil => exact absurd rfl hr
        | cons a t => rw [List.getLast?_cons_cons]; exact hz)
      rw [grp_app r B hr hl']
theorem lnGo_nil (bl : ByteArray → Bool) (f n : Nat) : lnGo bl f n [] = [] := by cases f <;> rfl
theorem lnGo_cons (bl : ByteArray → Bool) (f n : Nat) {l : List ByteArray} (h : l ≠ []) : lnGo bl (f + 1) n l = (if bl (grp l).1 then [] else [(n + 1, (grp l).1)]) ++ lnGo bl f (n + (grp l).2) (l.drop (grp l).2) := by
  cases l with
  | nil => exact absurd rfl h
  | cons a t => rfl
theorem lnGo_fuel (bl : ByteArray → Bool) : ∀ (f g n : Nat) (l : List ByteArray), l.length ≤ f → l.length ≤ g → lnGo bl f n l = lnGo bl g n l
  | 0, g, n, l, h, _ => by
    have : l = [] := List.eq_nil_of_length_eq_zero (by omega)
    subst this
    rw [lnGo_nil, lnGo_nil]
  | f + 1, g, n, l, h, h2 => by
    cases l with
    | nil => rw [lnGo_nil, lnGo_nil]
    | cons a t =>
      have hp := grp_pos (l := a :: t) (by simp)
      obtain ⟨g', rfl⟩ : ∃ g', g = g' + 1 := ⟨g - 1, by simp at h2; omega⟩
      rw [lnGo_cons bl f n (by simp), lnGo_cons bl g' n (by simp)]
      congr 1
      simp only [List.length_cons] at h h2
      exact lnGo_fuel bl f g' _ _ (by rw [List.length_drop, List.length_cons]; omega) (by rw [List.length_drop, List.length_cons]; omega)
theorem last_drop {A : List ByteArray} (k : Nat) (hl : ∀ z, A.getLast? = some z → lastB z = false) : ∀ z, (A.drop k).getLast? = some z → lastB z = false := by
  intro z hz
  refine hl z ?_
  rw [List.getLast?_drop] at hz
  split at hz
  · cases hz
  · exact hz
theorem lnGo_app (bl : ByteArray → Bool) : ∀ (f n : Nat) (A B : List ByteArray), A.length + B.length ≤ f → (∀ z, A.getLast? = some z → lastB z = false) →
    lnGo bl f n (A ++ B) = lnGo bl A.length n A ++ lnGo bl B.length (n + A.length) B
  | 0, n, A, B, h, _ => by
    have h1 : A = [] := List.eq_nil_of_length_eq_zero (by omega)
    have h2 : B = [] := List.eq_nil_of_length_eq_zero (by omega)
    subst h1 h2
    rfl
  | f + 1, n, A, B, h, hl => by
    by_cases hA : A = []
    · subst hA
      rw [List.nil_append, List.length_nil, lnGo_nil, List.nil_append, Nat.add_zero]
      exact lnGo_fuel bl _ _ _ _ (by simp at h; omega) (Nat.le_refl _)
    · have hp := grp_pos hA
      have hle := grp_le A
      obtain ⟨q, hq⟩ : ∃ q, A.length = q + 1 := ⟨A.length - 1, by omega⟩
      rw [lnGo_cons bl f n (by simp [hA]), grp_app A B hA hl, hq, lnGo_cons bl q n hA, List.append_assoc]
      congr 1
      rw [List.drop_append_of_le_length hle, lnGo_app bl f _ (A.drop (grp A).2) B (by rw [List.length_drop]; omega) (last_drop _ hl)]
      congr 1
      · exact lnGo_fuel bl _ _ _ _ (Nat.le_refl _) (by rw [List.length_drop]; omega)
      · congr 1
        rw [List.length_drop]
        omega
theorem lnGo_shift (bl : ByteArray → Bool) (m : Nat) : ∀ (f n : Nat) (l : List ByteArray), lnGo bl f (n + m) l = (lnGo bl f n l).map fun x => (x.1 + m, x.2)
  | 0, n, l => rfl
  | f + 1, n, l => by
    by_cases hl : l = []
    · subst hl
      rw [lnGo_nil, lnGo_nil]; rfl
    · rw [lnGo_cons bl f _ hl, lnGo_cons bl f _ hl, List.map_append, show n + m + (grp l).2 = n + (grp l).2 + m from by omega, lnGo_shift bl m f]
      congr 1
      split
      · rfl
      · simp; omega

def lfB : ByteArray := ⟨#[10]⟩
theorem pieces_empty : pieces ⟨#[]⟩ = [⟨#[]⟩] := by decide +kernel
theorem phys_lf (a : ByteArray) : phys (a ++ lfB) = pieces a := by
  have h := pieces_app a ⟨#[]⟩
  rw [pieces_empty, append_empty'] at h
  unfold phys
  show (if ((pieces (a ++ (⟨#[10]⟩ : ByteArray))).getLast?.getD ⟨#[]⟩).size = 0 then (pieces (a ++ (⟨#[10]⟩ : ByteArray))).dropLast else _) = _
  rw [h, List.getLast?_concat, Option.getD_some, if_pos (show (⟨#[]⟩ : ByteArray).size = 0 from rfl), List.dropLast_concat]
theorem phys_app (a b : ByteArray) : phys (a ++ lfB ++ b) = pieces a ++ phys b := by
  have h : pieces (a ++ lfB ++ b) = pieces a ++ pieces b := pieces_app a b
  have hne := pieces_ne b
  unfold phys
  rw [h, List.getLast?_append]
  obtain ⟨z, hz⟩ : ∃ z, (pieces b).getLast? = some z := by
    cases hb : (pieces b).getLast? with
    | none => exact absurd (List.getLast?_eq_none_iff.1 hb) hne
    | some z => exact ⟨z, rfl⟩
  rw [hz, show (some z).or (pieces a).getLast? = some z from rfl, Option.getD_some]
  split
  · rw [List.dropLast_append_of_ne_nil hne]
  · rfl
/-- THE PLAIN LAW. -/
theorem lines_app (a b : ByteArray) (ha : lastB a = false) : linesS (a ++ lfB ++ b) = linesS (a ++ lfB) ++ (linesS b).map fun x => (x.1 + (pieces a).length, x.2) := by
  unfold linesS
  rw [phys_app, phys_lf, lnGo_app blankB _ 0 (pieces a) (phys b) (by rw [List.length_append]; omega) (pieces_last a ha)]
  congr 1
  · exact lnGo_fuel _ _ _ _ _ (Nat.le_refl _) (by omega)
  · rw [lnGo_shift]
    congr 1
    exact lnGo_fuel _ _ _ _ _ (Nat.le_refl _) (by omega)
theorem pieces_count (a : ByteArray) : (pieces a).length = Lib.countB a ⟨#[10]⟩ + 1 := Lib.splitB_all ⟨#[10]⟩ (by decide) 0 _ a rfl

end Go.Proofs.YtofemhaepadggaaDoor
