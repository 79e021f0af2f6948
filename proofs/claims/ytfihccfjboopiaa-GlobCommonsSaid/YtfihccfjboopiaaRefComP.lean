/-
  PLAIN LAW OF THE REFERENCE's COMMON TEXT: lists of places with texts, gone through level by level. No program in sight.
-/
import Derived.Test.YtfihccfjboopiaaComPos
namespace Go.Proofs.Ytfihccfjboopiaa.G

/-- A place with a text that leads there. -/
abbrev Ent := Pos × List Nat

/-! TEXTS, byte by byte. -/
def tlt : List Nat → List Nat → Bool
  | _, [] => false
  | [], _ :: _ => true
  | x :: a, y :: b => decide (x < y) || (decide (x = y) && tlt a b)
theorem tlt_self : ∀ a, tlt a a = false
  | [] => rfl
  | x :: a => by simp [tlt, tlt_self a]
theorem tlt_trans : ∀ {a b c : List Nat}, tlt a b = true → tlt b c = true → tlt a c = true
  | _, [], _, h, _ => by cases ‹List Nat› <;> simp [tlt] at h
  | _, _ :: _, [], _, h => by simp [tlt] at h
  | [], _ :: _, _ :: _, _, _ => rfl
  | x :: a, y :: b, z :: c, h, k => by
    simp only [tlt, Bool.or_eq_true, Bool.and_eq_true, decide_eq_true_eq] at h k ⊢
    rcases h with h | ⟨rfl, h⟩
    · rcases k with k | ⟨rfl, k⟩
      · exact .inl (by omega)
      · exact .inl h
    · rcases k with k | ⟨rfl, k⟩
      · exact .inl k
      · exact .inr ⟨rfl, tlt_trans h k⟩
theorem tlt_total : ∀ (a b : List Nat), tlt a b = true ∨ a = b ∨ tlt b a = true
  | [], [] => .inr (.inl rfl)
  | [], _ :: _ => .inl rfl
  | _ :: _, [] => .inr (.inr rfl)
  | x :: a, y :: b => by
    simp only [tlt, Bool.or_eq_true, Bool.and_eq_true, decide_eq_true_eq, List.cons.injEq]
    rcases Nat.lt_trichotomy x y with hxy | hxy | hxy
    · exact .inl (.inl hxy)
    · rcases tlt_total a b with h | h | h
      · exact .inl (.inr ⟨hxy, h⟩)
      · exact .inr (.inl ⟨hxy, h⟩)
      · exact .inr (.inr (.inr ⟨hxy.symm, h⟩))
    · exact .inr (.inr (.inl hxy))
/-- No greater. -/
def tle (a b : List Nat) : Bool := !tlt b a
theorem tle_refl (a : List Nat) : tle a a = true := by simp [tle, tlt_self]
theorem tle_of {a b : List Nat} (h : tlt a b = true) : tle a b = true := by
  unfold tle
  cases hb : tlt b a with
  | false => rfl
  | true => exact absurd (tlt_trans h hb) (by simp [tlt_self])
theorem tle_iff {a b : List Nat} : tle a b = true ↔ a = b ∨ tlt a b = true := by
  constructor
  · intro h
    unfold tle at h
    rcases tlt_total a b with k | k | k
    · exact .inr k
    · exact .inl k
    · rw [k] at h; cases h
  · rintro (rfl | h)
    · exact tle_refl _
    · exact tle_of h
theorem tle_trans {a b c : List Nat} (h : tle a b = true) (k : tle b c = true) : tle a c = true := by
  rcases tle_iff.1 h with rfl | h
  · exact k
  · rcases tle_iff.1 k with rfl | k
    · exact tle_of h
    · exact tle_of (tlt_trans h k)
theorem tle_total (a b : List Nat) : tle a b = true ∨ tle b a = true := by
  rcases tlt_total a b with k | k | k
  · exact .inl (tle_of k)
  · exact .inl (by rw [k]; exact tle_refl _)
  · exact .inr (tle_of k)
theorem tle_not {a b : List Nat} (h : ¬ tle a b = true) : tlt b a = true := by
  unfold tle at h
  simpa using h
theorem tle_anti {a b : List Nat} (h : tle a b = true) (k : tle b a = true) : a = b := by
  rcases tle_iff.1 h with h | h
  · exact h
  · rcases tle_iff.1 k with k | k
    · exact k.symm
    · exact absurd (tlt_trans h k) (by simp [tlt_self])
/-- A text that parts and is less there is less. -/
theorem tlt_of_pre : ∀ {a b : List Nat}, Pre a b → tlt a b = true := by
  rintro a b ⟨p, x, y, u, v, rfl, rfl, h⟩
  induction p with
  | nil => simp [tlt, h]
  | cons c p ih => simp [tlt, ih]
theorem tlt_app : ∀ {a b : List Nat} (s t : List Nat), a.length = b.length → tlt a b = true → tlt (a ++ s) (b ++ t) = true
  | [], [], _, _, _, h => by simp [tlt] at h
  | [], _ :: _, _, _, hl, _ => by simp at hl
  | _ :: _, [], _, _, hl, _ => by simp at hl
  | x :: a, y :: b, s, t, hl, h => by
    simp only [tlt, Bool.or_eq_true, Bool.and_eq_true, decide_eq_true_eq, List.cons_append] at h ⊢
    rcases h with h | ⟨rfl, h⟩
    · exact .inl h
    · exact .inr ⟨rfl, tlt_app s t (by simpa using hl) h⟩
theorem leq_not {t s : List Nat} (h : leqT t s) (hl : s.length = t.length) : tle t s = true := by
  rcases h with h | h | ⟨_, h⟩
  · omega
  · rw [h]; exact tle_refl _
  · exact tle_of (tlt_of_pre h)

/-! THE LISTS. -/
def hasP (l : List Ent) (z : Pos) : Bool := l.any fun e => decide (e.1 = z)
def betterP (l : List Ent) (z : Ent) : Bool := match l.find? (fun e => decide (e.1 = z.1)) with
  | some e => tlt z.2 e.2
  | none => true
def insP : List Ent → Ent → List Ent
  | [], z => [z]
  | e :: l, z => if tle e.2 z.2 then e :: insP l z else z :: e :: l
def delP : List Ent → Pos → List Ent
  | [], _ => []
  | e :: l, z => if e.1 = z then l else e :: delP l z
def putP (l : List Ent) (z : Ent) : List Ent := match l.find? (fun e => decide (e.1 = z.1)) with
  | some e => if tle e.2 z.2 then l else insP (delP l z.1) z
  | none => insP l z

def Sorted (l : List Ent) : Prop := l.Pairwise fun a b => tle a.2 b.2 = true
def Once (l : List Ent) : Prop := l.Pairwise fun a b => a.1 ≠ b.1

theorem mem_insP {l : List Ent} {z e : Ent} : e ∈ insP l z ↔ e = z ∨ e ∈ l := by
  induction l with
  | nil => simp [insP]
  | cons a l ih =>
    rw [insP]
    split
    · simp only [List.mem_cons, ih]
      constructor
      · rintro (h | h | h)
        · exact .inr (.inl h)
        · exact .inl h
        · exact .inr (.inr h)
      · rintro (h | h | h)
        · exact .inr (.inl h)
        · exact .inl h
        · exact .inr (.inr h)
    · simp
theorem len_insP (l : List Ent) (z : Ent) : (insP l z).length = l.length + 1 := by
  induction l with
  | nil => rfl
  | cons a l ih =>
    rw [insP]
    split <;> simp [ih]
theorem sorted_insP {l : List Ent} {z : Ent} (h : Sorted l) : Sorted (insP l z) := by
  induction l with
  | nil => simp [insP, Sorted]
  | cons a l ih =>
    have h1 := List.pairwise_cons.1 h
    rw [insP]
    split
    · rename_i hle
      refine List.pairwise_cons.2 ⟨fun e he => ?_, ih h1.2⟩
      rcases mem_insP.1 he with rfl | he
      · exact hle
      · exact h1.1 e he
    · rename_i hle
      have hza : tle z.2 a.2 = true := tle_of (tle_not hle)
      refine List.pairwise_cons.2 ⟨fun e he => ?_, h⟩
      rcases List.mem_cons.1 he with rfl | he
      · exact hza
      · exact tle_trans hza (h1.1 e he)
theorem once_insP {l : List Ent} {z : Ent} (h : Once l) (hz : ∀ e ∈ l, e.1 ≠ z.1) : Once (insP l z) := by
  induction l with
  | nil => simp [insP, Once]
  | cons a l ih =>
    have h1 := List.pairwise_cons.1 h
    rw [insP]
    split
    · refine List.pairwise_cons.2 ⟨fun e he => ?_, ih h1.2 fun e he => hz e (List.mem_cons_of_mem _ he)⟩
      rcases mem_insP.1 he with rfl | he
      · exact hz a (List.mem_cons_self ..)
      · exact h1.1 e he
    · refine List.pairwise_cons.2 ⟨fun e he => (hz e he).symm, h⟩
theorem sub_delP (l : List Ent) (z : Pos) : (delP l z).Sublist l := by
  induction l with
  | nil => exact .slnil
  | cons a l ih =>
    rw [delP]
    split
    · exact List.sublist_cons_self _ _
    · exact ih.cons_cons _
theorem mem_delP {l : List Ent} {z : Pos} (h : Once l) {e : Ent} : e ∈ delP l z ↔ e ∈ l ∧ e.1 ≠ z := by
  induction l with
  | nil => simp [delP]
  | cons a l ih =>
    have h1 := List.pairwise_cons.1 h
    rw [delP]
    split
    · rename_i ha
      constructor
      · intro he
        exact ⟨List.mem_cons_of_mem _ he, fun hz => h1.1 e he (ha.trans hz.symm)⟩
      · rintro ⟨he, hz⟩
        rcases List.mem_cons.1 he with rfl | he
        · exact absurd ha hz
        · exact he
    · rename_i ha
      simp only [List.mem_cons, ih h1.2]
      constructor
      · rintro (rfl | ⟨h, k⟩)
        · exact ⟨.inl rfl, ha⟩
        · exact ⟨.inr h, k⟩
      · rintro ⟨rfl | h, k⟩
        · exact .inl rfl
        · exact .inr ⟨h, k⟩
theorem len_delP {l : List Ent} {z : Pos} (h : ∃ e ∈ l, e.1 = z) : (delP l z).length + 1 = l.length := by
  induction l with
  | nil => obtain ⟨e, he, _⟩ := h; cases he
  | cons a l ih =>
    rw [delP]
    split
    · rfl
    · rename_i ha
      obtain ⟨e, he, hz⟩ := h
      rcases List.mem_cons.1 he with rfl | he
      · exact absurd hz ha
      · simp only [List.length_cons]
        have := ih ⟨e, he, hz⟩
        omega

theorem find_some {l : List Ent} {z : Pos} {e : Ent} (h : l.find? (fun e => decide (e.1 = z)) = some e) : e ∈ l ∧ e.1 = z := by
  refine ⟨List.mem_of_find?_eq_some h, ?_⟩
  have := List.find?_some h
  simpa using this
theorem find_none {l : List Ent} {z : Pos} (h : l.find? (fun e => decide (e.1 = z)) = none) : ∀ e ∈ l, e.1 ≠ z := by
  intro e he
  have := List.find?_eq_none.1 h e he
  simpa using this
theorem once_eq {l : List Ent} (h : Once l) {a b : Ent} (ha : a ∈ l) (hb : b ∈ l) (hab : a.1 = b.1) : a = b := by
  induction l with
  | nil => cases ha
  | cons c l ih =>
    have h1 := List.pairwise_cons.1 h
    rcases List.mem_cons.1 ha with ea | ha
    · rcases List.mem_cons.1 hb with eb | hb
      · exact ea.trans eb.symm
      · rw [ea] at hab
        exact absurd hab (h1.1 b hb)
    · rcases List.mem_cons.1 hb with eb | hb
      · rw [eb] at hab
        exact absurd hab.symm (h1.1 a ha)
      · exact ih h1.2 ha hb

structure Put (l : List Ent) (z : Ent) (r : List Ent) : Prop where
  from_ : ∀ e ∈ r, e ∈ l ∨ e = z
  low : ∀ e, e ∈ l ∨ e = z → ∃ e' ∈ r, e'.1 = e.1 ∧ tle e'.2 e.2 = true
  sorted : Sorted l → Sorted r
  once : Once r

theorem put_put {l : List Ent} (z : Ent) (h : Once l) : Put l z (putP l z) := by
  unfold putP
  cases hf : l.find? (fun e => decide (e.1 = z.1)) with
  | none =>
    have hn := find_none hf
    refine ⟨fun e he => (mem_insP.1 he).symm, fun e he => ⟨e, mem_insP.2 he.symm, rfl, tle_refl _⟩, sorted_insP, once_insP h hn⟩
  | some x =>
    obtain ⟨hx, hxz⟩ := find_some hf
    dsimp only
    split
    · rename_i hle
      refine ⟨fun e he => .inl he, fun e he => ?_, id, h⟩
      rcases he with he | rfl
      · exact ⟨e, he, rfl, tle_refl _⟩
      · exact ⟨x, hx, hxz, hle⟩
    · rename_i hle
      have hlt := tle_not hle
      refine ⟨fun e he => ?_, fun e he => ?_, fun hs => sorted_insP (hs.sublist (sub_delP l z.1)), once_insP (h.sublist (sub_delP l z.1)) fun e he => ((mem_delP h).1 he).2⟩
      · rcases mem_insP.1 he with rfl | he
        · exact .inr rfl
        · exact .inl ((mem_delP h).1 he).1
      · rcases he with he | rfl
        · by_cases hez : e.1 = z.1
          · obtain rfl := once_eq h he hx (hez.trans hxz.symm)
            exact ⟨z, mem_insP.2 (.inl rfl), hez.symm, tle_of hlt⟩
          · exact ⟨e, mem_insP.2 (.inr ((mem_delP h).2 ⟨he, hez⟩)), rfl, tle_refl _⟩
        · exact ⟨_, mem_insP.2 (.inl rfl), rfl, tle_refl _⟩
theorem better_false {l : List Ent} {z : Ent} (h : betterP l z = false) : ∃ e ∈ l, e.1 = z.1 ∧ tle e.2 z.2 = true := by
  unfold betterP at h
  cases hf : l.find? (fun e => decide (e.1 = z.1)) with
  | none => rw [hf] at h; cases h
  | some x =>
    rw [hf] at h
    obtain ⟨hx, hxz⟩ := find_some hf
    exact ⟨x, hx, hxz, by unfold tle; simp only at h; rw [h]; rfl⟩

end Go.Proofs.Ytfihccfjboopiaa.G
