/-
  PLAIN LAW: the sets of places with which the reference reads a text answer whether the elements match it. No program in sight.
  THE WALKS of coldplugref02.places and one: whether an alternative matches a text.
-/
import Derived.Test.YtinjeijjfkkhbaaGreatDoorGlobMem
import Derived.Test.YtinjeijjfkkhbaaGreatDoorRefRows
import Derived.Deep.AppendLies
namespace Go.Proofs.YtinjeijjfkkhbaaGreatDoor.G

def starAt (l : List El) (i : Nat) : Bool := match l[i]? with
  | some e => e.star
  | none => false
def setAt (l : List El) (i c : Nat) : Bool := match l[i]? with
  | some e => !e.star && e.set c
  | none => false
theorem starAt_some {l : List El} {i : Nat} {e : El} (h : l[i]? = some e) : starAt l i = e.star := by simp [starAt, h]
theorem setAt_some {l : List El} {i c : Nat} {e : El} (h : l[i]? = some e) : setAt l i c = (!e.star && e.set c) := by simp [setAt, h]
theorem starAt_end {l : List El} {i : Nat} (h : l.length ≤ i) : starAt l i = false := by simp [starAt, List.getElem?_eq_none h]
theorem setAt_end {l : List El} {i c : Nat} (h : l.length ≤ i) : setAt l i c = false := by simp [setAt, List.getElem?_eq_none h]

/-- The places that follow without a byte. -/
def pl (l : List El) (f : Nat → Bool) : Nat → Bool
  | 0 => f 0
  | i + 1 => f (i + 1) || (pl l f i && starAt l i)
/-- The places one byte further. -/
def nx (l : List El) (f : Nat → Bool) (c : Nat) (j : Nat) : Bool := (f j && starAt l j) || (decide (0 < j) && f (j - 1) && setAt l (j - 1) c)

theorem pl_of {l : List El} {f : Nat → Bool} {i : Nat} (h : f i = true) : pl l f i = true := by
  cases i with
  | zero => exact h
  | succ i => simp [pl, h]
theorem pl_closed {l : List El} {f : Nat → Bool} {i : Nat} (h : pl l f i = true) (hs : starAt l i = true) : pl l f (i + 1) = true := by simp [pl, h, hs]

/-- What is open: one of the places goes on to match the text. -/
def Open (l : List El) (f : Nat → Bool) (t : List Nat) : Prop := ∃ i, i ≤ l.length ∧ f i = true ∧ mt (l.drop i) t = true

theorem starAt_get {l : List El} {i : Nat} (h : starAt l i = true) : ∃ e, l[i]? = some e ∧ e.star = true := by
  unfold starAt at h
  split at h
  · rename_i e he; exact ⟨e, he, h⟩
  · cases h
theorem setAt_get {l : List El} {i c : Nat} (h : setAt l i c = true) : ∃ e, l[i]? = some e ∧ e.star = false ∧ e.set c = true := by
  unfold setAt at h
  split at h
  · rename_i e he
    simp only [Bool.and_eq_true, Bool.not_eq_true'] at h
    exact ⟨e, he, h.1, h.2⟩
  · cases h

theorem open_pl {l : List El} {f : Nat → Bool} {t : List Nat} : Open l (pl l f) t ↔ Open l f t := by
  constructor
  · rintro ⟨i, hi, hp, hm⟩
    induction i with
    | zero => exact ⟨0, hi, hp, hm⟩
    | succ i ih =>
      simp only [pl, Bool.or_eq_true, Bool.and_eq_true] at hp
      rcases hp with hp | ⟨hp, hs⟩
      · exact ⟨i + 1, hi, hp, hm⟩
      · obtain ⟨e, he, hes⟩ := starAt_get hs
        refine ih (by omega) hp ?_
        rw [drop_of_get he, mt_star hes]
        exact ⟨0, Nat.zero_le _, by simpa using hm⟩
  · rintro ⟨i, hi, hp, hm⟩
    exact ⟨i, hi, pl_of hp, hm⟩

theorem open_nx {l : List El} {f : Nat → Bool} {c : Nat} {t : List Nat} (hc : ∀ i, f i = true → starAt l i = true → f (i + 1) = true) : Open l (nx l f c) t ↔ Open l f (c :: t) := by
  constructor
  · rintro ⟨j, hj, hp, hm⟩
    simp only [nx, Bool.or_eq_true, Bool.and_eq_true, decide_eq_true_eq] at hp
    rcases hp with ⟨hp, hs⟩ | ⟨⟨h0, hp⟩, hs⟩
    · obtain ⟨e, he, hes⟩ := starAt_get hs
      refine ⟨j, hj, hp, ?_⟩
      rw [drop_of_get he, mt_star hes] at hm ⊢
      obtain ⟨k, hk, hm⟩ := hm
      exact ⟨k + 1, by simpa using hk, by simpa using hm⟩
    · obtain ⟨e, he, hes, hec⟩ := setAt_get hs
      obtain ⟨i, rfl⟩ : ∃ i, j = i + 1 := ⟨j - 1, by omega⟩
      simp only [Nat.add_sub_cancel] at hp he
      refine ⟨i, by omega, hp, ?_⟩
      rw [drop_of_get he, mt_one hes, hec, hm]
      rfl
  · rintro ⟨i, hi, hp, hm⟩
    obtain ⟨n, hn⟩ : ∃ n, n = l.length - i := ⟨_, rfl⟩
    induction n generalizing i with
    | zero =>
      rw [List.drop_eq_nil_of_le (by omega)] at hm
      simp [mt] at hm
    | succ n ih =>
      obtain ⟨e, he⟩ : ∃ e, l[i]? = some e := ⟨_, List.getElem?_eq_getElem (by omega)⟩
      rw [drop_of_get he] at hm
      cases hs : e.star with
      | true =>
        have hsa : starAt l i = true := by rw [starAt_some he, hs]
        rw [mt_star hs] at hm
        obtain ⟨k, hk, hm⟩ := hm
        cases k with
        | zero => exact ih (i + 1) (by omega) (hc i hp hsa) (by simpa using hm) (by omega)
        | succ k =>
          refine ⟨i, hi, by simp [nx, hp, hsa], ?_⟩
          rw [drop_of_get he, mt_star hs]
          exact ⟨k, by simpa using hk, by simpa using hm⟩
      | false =>
        rw [mt_one hs, Bool.and_eq_true] at hm
        refine ⟨i + 1, by omega, ?_, hm.2⟩
        simp [nx, hp, setAt_some he, hs, hm.1]

/-- The places behind k bytes. -/
def placesAt (l : List El) : List Nat → Nat → Bool
  | [] => pl l (fun i => decide (i = 0))
  | c :: r => pl l (nx l (placesAt l r) c)

theorem placesAt_closed (l : List El) (r : List Nat) (i : Nat) (h : placesAt l r i = true) (hs : starAt l i = true) : placesAt l r (i + 1) = true := by
  cases r with
  | nil => exact pl_closed h hs
  | cons c r => exact pl_closed h hs

theorem open_placesAt (l : List El) : ∀ (r t : List Nat), Open l (placesAt l r) t ↔ mt l (r.reverse ++ t) = true
  | [], t => by
    rw [placesAt, open_pl]
    simp only [List.reverse_nil, List.nil_append]
    constructor
    · rintro ⟨i, hi, h0, hm⟩
      obtain rfl : i = 0 := by simpa using h0
      simpa using hm
    · intro h
      exact ⟨0, Nat.zero_le _, by simp, by simpa using h⟩
  | c :: r, t => by
    rw [placesAt, open_pl, open_nx (placesAt_closed l r), open_placesAt l r (c :: t)]
    simp

/-- Behind the whole text the last place tells. -/
theorem placesAt_end (l : List El) (s : List Nat) : placesAt l s.reverse l.length = mt l s := by
  have h := open_placesAt l s.reverse []
  rw [List.reverse_reverse, List.append_nil] at h
  rw [Bool.eq_iff_iff, ← h]
  constructor
  · intro hp
    exact ⟨l.length, Nat.le_refl _, hp, by simp [mt]⟩
  · rintro ⟨i, hi, hp, hm⟩
    obtain ⟨n, hn⟩ : ∃ n, n = l.length - i := ⟨_, rfl⟩
    induction n generalizing i with
    | zero =>
      obtain rfl : i = l.length := by omega
      exact hp
    | succ n ih =>
      obtain ⟨e, he⟩ : ∃ e, l[i]? = some e := ⟨_, List.getElem?_eq_getElem (by omega)⟩
      rw [drop_of_get he] at hm
      cases hs : e.star with
      | true =>
        rw [mt_star hs] at hm
        obtain ⟨k, hk, hm⟩ := hm
        have hk0 : k = 0 := by simpa using hk
        subst hk0
        exact ih (i + 1) (by omega) (placesAt_closed l _ i hp (by rw [starAt_some he, hs])) (by simpa using hm) (by omega)
      | false => rw [mt_one_nil hs] at hm; cases hm

/-- 'places' halfway. -/
def plTo (l : List El) (f : Nat → Bool) (i j : Nat) : Bool := if j ≤ i then pl l f j else f j
theorem plTo_step {l : List El} {f : Nat → Bool} {i : Nat} : plTo l f (i + 1) (i + 1) = (f (i + 1) || (plTo l f i i && starAt l i)) := by simp [plTo, pl]
theorem plTo_other {l : List El} {f : Nat → Bool} {i j : Nat} (h : j ≠ i + 1) : plTo l f (i + 1) j = plTo l f i j := by
  unfold plTo
  by_cases h1 : j ≤ i
  · rw [if_pos h1, if_pos (by omega)]
  · rw [if_neg h1, if_neg (by omega)]
theorem plTo_zero (l : List El) (f : Nat → Bool) : plTo l f 0 = f := by
  funext j
  unfold plTo
  by_cases h1 : j ≤ 0
  · obtain rfl : j = 0 := by omega
    simp [pl]
  · rw [if_neg h1]
/-- One byte further, halfway. -/
def nxTo (l : List El) (f : Nat → Bool) (c i j : Nat) : Bool := (decide (j < i) && (f j && starAt l j)) || (decide (0 < j) && decide (j ≤ i) && f (j - 1) && setAt l (j - 1) c)
theorem nxTo_zero (l : List El) (f : Nat → Bool) (c : Nat) : nxTo l f c 0 = fun _ => false := by
  funext j
  unfold nxTo
  by_cases h : 0 < j
  · simp [show ¬ j = 0 from by omega]
  · simp [h]
theorem nxTo_end {l : List El} {f : Nat → Bool} {c j : Nat} (h : j ≤ l.length) : nxTo l f c l.length j = nx l f c j := by
  unfold nxTo nx
  by_cases h1 : j < l.length
  · simp [h1, h]
  · obtain rfl : j = l.length := by omega
    simp [starAt_end (Nat.le_refl _)]

theorem nxTo_far {l : List El} {f : Nat → Bool} {c i j : Nat} (h1 : j ≠ i) (h2 : j ≠ i + 1) : nxTo l f c (i + 1) j = nxTo l f c i j := by
  unfold nxTo
  rw [show (decide (j < i + 1)) = decide (j < i) from by rw [Bool.eq_iff_iff, decide_eq_true_eq, decide_eq_true_eq]; omega,
    show (decide (j ≤ i + 1)) = decide (j ≤ i) from by rw [Bool.eq_iff_iff, decide_eq_true_eq, decide_eq_true_eq]; omega]
theorem nxTo_at (l : List El) (f : Nat → Bool) (c i : Nat) : nxTo l f c (i + 1) i = (nxTo l f c i i || (f i && starAt l i)) := by
  unfold nxTo
  rw [decide_eq_true (show i < i + 1 by omega), decide_eq_false (show ¬ i < i by omega), decide_eq_true (show i ≤ i + 1 by omega), decide_eq_true (Nat.le_refl i), Bool.true_and, Bool.false_and, Bool.false_or, Bool.or_comm]
theorem nxTo_next (l : List El) (f : Nat → Bool) (c i : Nat) : nxTo l f c (i + 1) (i + 1) = (f i && setAt l i c) := by
  simp [nxTo]
theorem nxTo_new (l : List El) (f : Nat → Bool) (c i : Nat) : nxTo l f c i (i + 1) = false := by
  simp [nxTo, Nat.not_succ_le_self, show ¬ i + 1 < i from by omega]
theorem set_star {l : List El} {i c : Nat} (h : setAt l i c = true) : starAt l i = false := by
  obtain ⟨e, he, hs, _⟩ := setAt_get h
  rw [starAt_some he, hs]
/-- A star is kept. -/
theorem nxTo_star {l : List El} {f : Nat → Bool} {c i : Nat} (hf : f i = true) (hs : starAt l i = true) (j : Nat) : nxTo l f c (i + 1) j = if j = i then true else nxTo l f c i j := by
  by_cases h1 : j = i
  · subst h1
    rw [if_pos rfl, nxTo_at, hf, hs]
    simp
  · rw [if_neg h1]
    by_cases h2 : j = i + 1
    · subst h2
      rw [nxTo_next, nxTo_new]
      cases h : setAt l i c with
      | false => simp
      | true => rw [set_star h] at hs; cases hs
    · exact nxTo_far h1 h2
/-- A set is passed. -/
theorem nxTo_set {l : List El} {f : Nat → Bool} {c i : Nat} (hf : f i = true) (hs : setAt l i c = true) (j : Nat) : nxTo l f c (i + 1) j = if j = i + 1 then true else nxTo l f c i j := by
  by_cases h2 : j = i + 1
  · subst h2
    rw [if_pos rfl, nxTo_next, hf, hs]
    rfl
  · rw [if_neg h2]
    by_cases h1 : j = i
    · subst h1
      rw [nxTo_at, set_star hs]
      simp
    · exact nxTo_far h1 h2
/-- Nothing goes on. -/
theorem nxTo_no {l : List El} {f : Nat → Bool} {c i : Nat} (hs : (f i && starAt l i) = false) (hc : (f i && setAt l i c) = false) : nxTo l f c (i + 1) = nxTo l f c i := by
  funext j
  by_cases h2 : j = i + 1
  · subst h2
    rw [nxTo_next, nxTo_new, hc]
  · by_cases h1 : j = i
    · subst h1
      rw [nxTo_at, hs]
      simp
    · exact nxTo_far h1 h2

end Go.Proofs.YtinjeijjfkkhbaaGreatDoor.G

namespace Go.Proofs.YtinjeijjfkkhbaaGreatDoor
open Go.RowKit

theorem own_later {w w' : World} {B : Nat} {e : TypeId} {size n : Nat} {v : Value} {xs : List Value} (h : w.ownsRow B e size v n xs) (hb : Below w.heap.size w w') : w'.ownsRow B e size v n xs :=
  own_only h (Only.of_below (S := fun _ => False) hb fun k h1 h2 => by omega) (fun _ _ h => h)

/-- n Booleans as cells. -/
def bl (f : Nat → Bool) (n : Nat) : List Value := (List.range n).map fun i => .bool (f i)
theorem bl_len (f : Nat → Bool) (n : Nat) : (bl f n).length = n := by simp [bl]
theorem bl_get (f : Nat → Bool) {n j : Nat} (h : j < n) : (bl f n)[j]? = some (.bool (f j)) := by simp [bl, h]
theorem bl_congr {f g : Nat → Bool} {n : Nat} (h : ∀ j, j < n → f j = g j) : bl f n = bl g n := by
  unfold bl
  apply List.map_congr_left
  intro a ha
  rw [h a (List.mem_range.1 ha)]
theorem bl_set (f : Nat → Bool) (n i : Nat) (b : Bool) : (bl f n).set i (.bool b) = bl (fun j => if j = i then b else f j) n := by
  apply List.ext_getElem?
  intro j
  rw [List.getElem?_set]
  simp only [bl_len]
  by_cases hj : j < n
  · by_cases h : i = j
    · subst h
      rw [if_pos rfl, if_pos hj, bl_get _ hj]
      simp
    · rw [if_neg h, bl_get _ hj, bl_get _ hj, if_neg (fun e => h e.symm)]
  · have e1 : ∀ g : Nat → Bool, (bl g n)[j]? = none := fun g => List.getElem?_eq_none (by rw [bl_len]; omega)
    rw [e1, e1]
    by_cases h : i = j
    · subst h
      rw [if_pos rfl, if_neg hj]
    · rw [if_neg h]
theorem bl_one (f : Nat → Bool) (n : Nat) : ∀ u ∈ bl f n, u.oneCell' = true := by
  intro u hu
  simp only [bl, List.mem_map] at hu
  obtain ⟨i, _, rfl⟩ := hu
  rfl
theorem bl_made (n : Nat) : (madeCells #[Value.bool false] n).toList = bl (fun _ => false) n := by
  apply List.ext_getElem?
  intro j
  by_cases hj : j < n
  · rw [bl_get _ hj]
    simp [madeCells, hj, Nat.mod_one]
  · have h1 : (bl (fun _ => false) n)[j]? = none := List.getElem?_eq_none (by rw [bl_len]; omega)
    rw [h1]
    simp [madeCells]
    omega

/-- A row of n Booleans that lies in memory from block B on. -/
def BRow (w : World) (B : Nat) (v : Value) (f : Nat → Bool) (n : Nat) : Prop := w.ownsRow B 4 1 v n (bl f n)
theorem BRow.form {w : World} {B n : Nat} {v : Value} {f : Nat → Bool} (h : BRow w B v f n) (hn : 0 < n) : ∃ g cap, v = .slice (some ⟨g, 0, none⟩) n cap ∧ B ≤ g ∧ g < w.heap.size := by
  obtain ⟨g, cap, hv, h1, h2⟩ := World.ownsRow.form h hn
  exact ⟨g, cap, hv, h1, h2⟩
theorem BRow.cell {w : World} {B n g cap : Nat} {f : Nat → Bool} (h : BRow w B (.slice (some ⟨g, 0, none⟩) n cap) f n) {j : Nat} (hj : j < n) : w.cell? ⟨g, j, none⟩ = some (.bool (f j)) := by
  rw [World.ownsRow.cellAt h j (by omega)]
  exact bl_get f hj
theorem BRow.frozen {w : World} {B n g cap : Nat} {f : Nat → Bool} (h : BRow w B (.slice (some ⟨g, 0, none⟩) n cap) f n) (j : Nat) : w.frozen? ⟨g, j, none⟩ = false := World.ownsRow.frozenAt h j
theorem BRow.store {w : World} {B n g cap : Nat} {f f' : Nat → Bool} (h : BRow w B (.slice (some ⟨g, 0, none⟩) n cap) f n) (i : Nat) (b : Bool) (hf : ∀ j, j < n → f' j = if j = i then b else f j) :
    BRow (w.setCell ⟨g, i, none⟩ (.bool b)) B (.slice (some ⟨g, 0, none⟩) n cap) f' n := by
  have h2 := (World.ownsRow.stored h i (.bool b)).1
  rw [bl_set] at h2
  unfold BRow
  rw [bl_congr hf]
  exact h2
theorem BRow.congr {w : World} {B n : Nat} {v : Value} {f f' : Nat → Bool} (h : BRow w B v f n) (hf : ∀ j, j < n → f' j = f j) : BRow w B v f' n := by
  unfold BRow
  rw [bl_congr hf]
  exact h
theorem BRow.below {w w' : World} {B n : Nat} {v : Value} {f : Nat → Bool} (h : BRow w B v f n) (hb : Below w.heap.size w w') : BRow w' B v f n := own_later h hb

theorem RowR.below {w w' : World} {B : Nat} {v : Value} {l : List G.El} (h : RowR w B v l) (hb : Below w.heap.size w w') : RowR w' B v l := own_later h hb
theorem RowR.parts {w : World} {B : Nat} {v : Value} {l : List G.El} (h : RowR w B v l) :
    ∃ p cap, v = .slice p l.length cap ∧ ∀ k x, l[k]? = some x → ∃ g, p = some ⟨g, 0, none⟩ ∧ g < w.heap.size ∧ ∀ i, i < 130 → w.cell? ⟨g, k * 130 + i, none⟩ = (elLR x)[i]? := by
  by_cases hl : 0 < l.length
  · obtain ⟨g, cap, hv, h1, h2⟩ := World.ownsRow.form h hl
    subst hv
    refine ⟨_, cap, rfl, fun k x hx => ⟨g, rfl, h2, fun i hi => ?_⟩⟩
    have hk := (List.getElem?_eq_some_iff.1 hx).1
    rw [World.ownsRow.cellAt h (k * 130 + i) (by omega)]
    exact flatR_get l k i x hx hi
  · have h0 : l = [] := List.eq_nil_of_length_eq_zero (by omega)
    subst h0
    rcases h with ⟨_, ⟨rfl, _⟩ | ⟨g, cap, cur, rfl, _⟩⟩
    · exact ⟨_, _, rfl, fun k x hx => by cases hx⟩
    · exact ⟨_, _, rfl, fun k x hx => by cases hx⟩
theorem elLR_star (x : G.El) : (elLR x)[0]? = some (.bool x.star) := by
  have := elR_star x.star (decide (x.lit ≠ 0)) (if x.star then G.none' else x.set)
  simpa [elLR, elArrR] using this
theorem elLR_lit (x : G.El) : (elLR x)[1]? = some (.bool (decide (x.lit ≠ 0))) := by
  have := elR_lit x.star (decide (x.lit ≠ 0)) (if x.star then G.none' else x.set)
  simpa [elLR, elArrR] using this
theorem elLR_set (x : G.El) (k : Nat) (h : k < 128) : (elLR x)[2 + k]? = some (.bool (!x.star && x.set k)) := by
  have := elR_set x.star (decide (x.lit ≠ 0)) (if x.star then G.none' else x.set) k h
  have e : (if x.star then G.none' else x.set) k = (!x.star && x.set k) := by
    cases x.star <;> simp [G.none']
  rw [e] at this
  simpa [elLR, elArrR] using this

theorem info_bool : (Tryz.prog.info? 4).map (fun i => (i.zero, i.size, i.bytes)) = some (some (.bool false), 1, 1) := by kernel_rfl

set_option maxRecDepth 100000 in
set_option maxHeartbeats 2000000 in
theorem places_any {w : World} {B B2 : Nat} {v va : Value} {l : List G.El} {f : Nat → Bool} (hr : RowR w B v l) (ha : BRow w B2 va f (l.length + 1)) (hl : l.length ≤ 256) :
    Calls Tryz.prog 99 #[v, va] w fun e w' => ∃ v', e = .returned v' ∧ BRow w' w.heap.size v' (G.pl l f) (l.length + 1) ∧ Below w.heap.size w w' := by
  obtain ⟨j0, hj0, hy0, hy1, hy2⟩ := info_parts info_bool
  obtain ⟨p, cap, rfl, hpf⟩ := hr.parts
  obtain ⟨ga, capa, rfl, hga, hgl⟩ := ha.form (by omega)
  have hnews : ∀ j u, (bl f (l.length + 1))[j]? = some u → w.cell? ((⟨ga, 0, none⟩ : Addr).add j) = some u := fun j u hu => by
    have hj : j < l.length + 1 := by have := (List.getElem?_eq_some_iff.1 hu).1; rwa [bl_len] at this
    rw [bl_get f hj] at hu
    rw [show (⟨ga, 0, none⟩ : Addr).add j = ⟨ga, j, none⟩ from by simp [Addr.add]; omega]
    rw [ha.cell hj]; exact hu
  have hpf' := Lib.hid hpf; clear hpf hr
  have hnews' := Lib.hid hnews; clear hnews ha
  go_enter Tryz.func99, Tryz.ntmps99
  go_wp2_with (first
    | (at_builtin
       refine wpList_append_lies _ rfl (.const (.slice none 0 0)) (.tmp 7) 137 rfl w.heap.size 4 j0 (.bool false) 1 1 Tryz.underlying137 hj0 hy0 hy1 hy2 rfl (by omega) (.slice none 0 0) 0 [] rfl (World.ownsRow_nil _ _ _ _) ⟨ga, 0, none⟩ (l.length + 1) capa (bl f (l.length + 1)) rfl (by rw [bl_len]; omega) hnews'.out (bl_one _ _) (by omega) (by unfold maxLen; omega) (by omega) (Nat.le_refl _) w.heap.size rfl ?_
       intro go capo w1 own1 grow1 lies1 lt1
       have own1' := Lib.hid own1; clear own1
       have grow1' := Lib.hid grow1; clear grow1 lies1)
    | fail)
  have hB1 : BRow w1 w.heap.size (.slice (some ⟨go, 0, none⟩) (l.length + 1) capo) (G.plTo l f 0) (l.length + 1) := by
    have := own1'.out
    rw [Nat.zero_add, List.nil_append] at this
    rw [G.plTo_zero]
    exact this
  have hb1 : Below w.heap.size w w1 := (only_grown grow1'.out).below (fun k hk => by cases hk) (Nat.le_refl _)
  have hB1' := Lib.hid hB1; clear hB1 own1'
  have hb1' := Lib.hid hb1; clear hb1 grow1'
  go_loopw [6] (fun s6 wr => ∃ i : Nat, s6 = .int .i64 i ∧ i ≤ l.length ∧ BRow wr w.heap.size (.slice (some ⟨go, 0, none⟩) (l.length + 1) capo) (G.plTo l f i) (l.length + 1) ∧ Below w.heap.size w wr) (fun s6 _ => l.length - (intOf s6).toNat)
  case atStart => exact ⟨0, rfl, by omega, by simpa using hB1'.out, hb1'.out⟩
  case round =>
    clear hB1' hb1'
    obtain ⟨i, rfl, hi, hB, hb⟩ := hrel
    by_cases hil : i < l.length
    · obtain ⟨x, hx⟩ : ∃ x, l[i]? = some x := ⟨_, List.getElem?_eq_getElem hil⟩
      obtain ⟨ge, rfl, hge, hce⟩ := hpf'.out i x hx
      have c0 := hB.cell (j := i) (by omega)
      have c1 := hB.cell (j := i + 1) (by omega)
      have f1 := hB.frozen (i + 1)
      have cs : wr.cell? ⟨ge, i * 130 + 0, none⟩ = some (.bool x.star) := ((hb.cell (p := ⟨ge, i * 130 + 0, none⟩) hge).trans (hce 0 (by omega))).trans (elLR_star x)
      rw [Nat.add_zero] at cs
      have hst := G.starAt_some hx
      have i1 : (i : Int) + 1 < (l.length : Int) + 1 := by omega
      have i2 : (i : Int) < (l.length : Int) + 1 := by omega
      have i3 : (0 : Int) ≤ (i : Int) + 1 := by omega
      have hgo := hB.form (by omega)
      have hn : (G.plTo l f i i && x.star) = false → BRow wr w.heap.size (.slice (some ⟨go, 0, none⟩) (l.length + 1) capo) (G.plTo l f (i + 1)) (l.length + 1) := fun h => hB.congr fun j hj => by
        by_cases e : j = i + 1
        · subst e
          rw [G.plTo_step, hst, h]
          unfold G.plTo
          rw [if_neg (by omega)]
          simp
        · rw [G.plTo_other e]
      have hy : (G.plTo l f i i && x.star) = true → BRow (wr.setCell ⟨go, i + 1, none⟩ (.bool true)) w.heap.size (.slice (some ⟨go, 0, none⟩) (l.length + 1) capo) (G.plTo l f (i + 1)) (l.length + 1) := fun h => hB.store (i + 1) true fun j hj => by
        by_cases e : j = i + 1
        · subst e
          rw [G.plTo_step, hst, h]
          simp
        · rw [G.plTo_other e, if_neg e]
      have hby : Below w.heap.size w (wr.setCell ⟨go, i + 1, none⟩ (.bool true)) := by
        obtain ⟨_, _, he, h1, _⟩ := hgo
        cases he
        exact hb.trans (((Only.refl (fun k => w.heap.size ≤ k) wr).setCell (p := ⟨go, i + 1, none⟩) (.inl h1) (.bool true)).below (fun _ hk => hk) hb.size)
      have hn' := Lib.hid hn; clear hn
      have hy' := Lib.hid hy; clear hy
      have hby' := Lib.hid hby; clear hby hgo
      have hB' := Lib.hid hB; clear hB
      have hb' := Lib.hid hb; clear hb hst hx hce
      generalize G.plTo l f i i = a at *
      generalize x.star = b at *
      cases a with
      | false =>
        go_wp2_with fail
        go_roundw
        case rel => exact ⟨i + 1, by go_num, by omega, hn'.out rfl, hb'.out⟩
        case measure => simp [intOf]; omega
      | true =>
        cases b with
        | false =>
          go_wp2_with fail
          go_roundw
          case rel => exact ⟨i + 1, by go_num, by omega, hn'.out rfl, hb'.out⟩
          case measure => simp [intOf]; omega
        | true =>
          go_wp2_with fail
          go_roundw
          case rel => exact ⟨i + 1, by go_num, by omega, hy'.out rfl, hby'.out⟩
          case measure => simp [intOf]; omega
    · obtain rfl : i = l.length := by omega
      have hfin : BRow wr w.heap.size (.slice (some ⟨go, 0, none⟩) (l.length + 1) capo) (G.pl l f) (l.length + 1) := hB.congr fun j hj => by
        unfold G.plTo
        rw [if_pos (by omega)]
      have hfin' := Lib.hid hfin; clear hfin hB
      have hb' := Lib.hid hb; clear hb
      go_wp2_with fail
      go_ret
      exact ⟨.slice (some ⟨go, 0, none⟩) (l.length + 1) capo, rfl, hfin'.out, hb'.out⟩

theorem below_draws {B : Nat} {a w : World} (h : Below B a w) (n : Nat) : Below B a (w.drewN n) :=
  ⟨(congrArg World.os (rfl : w.drewN n = _)).trans h.os, by simpa using h.tape, (congrArg World.output (rfl : w.drewN n = _)).trans h.output, by simpa using h.size, fun k hk => by simpa using h.block k hk⟩
theorem BRow.draws {w : World} {B n : Nat} {v : Value} {f : Nat → Bool} (h : BRow w B v f n) (k : Nat) : BRow (w.drewN k) B v f n := by
  simpa [BRow, World.ownsRow] using h
theorem below_cell {B g i : Nat} {a w : World} (h : Below B a w) (hg : B ≤ g) (u : Value) (hB : B ≤ a.heap.size) : Below B a (w.setCell ⟨g, i, none⟩ u) :=
  h.trans (((Only.refl (fun k => B ≤ k) w).setCell (p := ⟨g, i, none⟩) (.inl hg) u).below (fun _ hk => hk) (Nat.le_trans hB h.size))

set_option maxRecDepth 100000 in
set_option maxHeartbeats 4000000 in
theorem one_any {w : World} {B : Nat} {v : Value} {l : List G.El} (s : ByteArray) (hr : RowR w B v l) (hl : l.length ≤ 256) (hs : s.size ≤ 9223372036854775807) (hb : ∀ x, x ∈ bs s → G.pr x = true) :
    Calls Tryz.prog 88 #[v, .string s] w fun e w' => e = .returned (.bool (G.mt l (bs s))) ∧ Below w.heap.size w w' := by
  obtain ⟨j0, hj0, hy0, hy1, hy2⟩ := info_parts info_bool
  obtain ⟨p, cap, rfl, hpf⟩ := hr.parts
  have hpf' := Lib.hid hpf; clear hpf
  have hr' := Lib.hid hr; clear hr
  have hb' := Lib.hid hb; clear hb
  go_enter Tryz.func88, Tryz.ntmps88
  go_wp2_with (first
    | (at_make
       refine wpList_make_full _ rfl (.tmp 11) (.tmp 11) 137 rfl w.heap.size 4 j0 (.bool false) 1 Tryz.underlying137 hj0 hy0 hy1 .i64 .i64 _ _ (l.length + 1) rfl rfl (by push_cast; omega) (by push_cast; omega) (by rw [hy2]; omega) (by unfold maxLen; omega) (Nat.le_refl _) ?_
       intro w1 own1 grow1
       have hB1 : BRow w1 w.heap.size (.slice (some ⟨w.heap.size, 0, none⟩) (l.length + 1) (l.length + 1)) (fun _ => false) (l.length + 1) := by
         rw [Nat.mul_one, show (Value.bool false).cells = #[.bool false] from rfl, bl_made] at own1
         exact own1
       have c0 := hB1.cell (j := 0) (by omega)
       have f0 := hB1.frozen 0
       have hB1' := Lib.hid hB1; clear hB1 own1
       have grow1' := Lib.hid grow1; clear grow1)
    | fail)
  have hB2 : BRow (w1.setCell ⟨w.heap.size, 0, none⟩ (.bool true)) w.heap.size (.slice (some ⟨w.heap.size, 0, none⟩) (l.length + 1) (l.length + 1)) (fun j => decide (j = 0)) (l.length + 1) := hB1'.out.store 0 true fun j _ => by
    by_cases e : j = 0
    · simp [e]
    · simp [e]
  have hb2 : Below w.heap.size w (w1.setCell ⟨w.heap.size, 0, none⟩ (.bool true)) := below_cell ((only_grown grow1'.out).below (fun k hk => by cases hk) (Nat.le_refl _)) (Nat.le_refl _) _ (Nat.le_refl _)
  have hP := places_any (hr'.out.below hb2) hB2 hl
  have hb2' := Lib.hid hb2; clear hb2
  clear hB2 hB1' grow1' c0 f0
  generalize w1.setCell ⟨w.heap.size, 0, none⟩ (.bool true) = w2 at *
  refine hP.mono ?_
  clear hP
  rintro e w3 ⟨va, rfl, hB3, hb3⟩
  have hb4 : Below w.heap.size w w3 := hb2'.out.trans (hb3.mono hb2'.out.size)
  have hB3' := Lib.hid hB3; clear hB3
  have hb4' := Lib.hid hb4; clear hb4 hb3 hb2'
  go_wp2_with fail
  go_loopw [5, 6] (fun s5 s6 wr => ∃ (k B' : Nat), s6 = .int .i64 k ∧ k ≤ s.size ∧ BRow wr B' s5 (G.placesAt l ((bs s).take k).reverse) (l.length + 1) ∧ Below w.heap.size w wr) (fun _ s6 _ => s.size - (intOf s6).toNat)
  case atStart => exact ⟨0, _, rfl, by omega, hB3'.out, hb4'.out⟩
  case round =>
    clear hB3' hb4'
    obtain ⟨k, B', rfl, hk, hB, hbw⟩ := hrel
    obtain ⟨w0, rfl⟩ : ∃ y : World, y = wr := ⟨_, rfl⟩
    obtain ⟨ga, capa, rfl, hga, hgl⟩ := hB.form (by omega)
    have hz := hbw.size
    by_cases hks : k < s.size
    · have hpk := get_bs s k hks
      have hc127 : (s[k]'hks).toNat < 127 := by
        have := hb'.out _ (List.mem_of_getElem? hpk)
        simp only [G.pr, Bool.and_eq_true, decide_eq_true_eq] at this
        omega
      have hB' := Lib.hid hB; clear hB
      have hbw' := Lib.hid hbw; clear hbw
      have hpk' := Lib.hid hpk; clear hpk
      have hstep : ∀ c, (bs s)[k]? = some c → ((bs s).take (k + 1)).reverse = c :: ((bs s).take k).reverse := fun c hc => by
        rw [List.take_add_one, hc]
        simp
      have hstep' := Lib.hid hstep; clear hstep
      go_wp2_with (first
        | (at_make
           refine wpList_make_full _ rfl (.tmp 26) (.tmp 26) 137 rfl w0.heap.size 4 j0 (.bool false) 1 Tryz.underlying137 hj0 hy0 hy1 .i64 .i64 _ _ (l.length + 1) rfl rfl (by push_cast; omega) (by push_cast; omega) (by rw [hy2]; omega) (by unfold maxLen; omega) (Nat.le_refl _) ?_
           intro w1 own1 grow1
           have hN : BRow w1 w0.heap.size (.slice (some ⟨w0.heap.size, 0, none⟩) (l.length + 1) (l.length + 1)) (fun _ => false) (l.length + 1) := by
             rw [Nat.mul_one, show (Value.bool false).cells = #[.bool false] from rfl, bl_made] at own1
             exact own1
           have hN' := Lib.hid hN; clear hN own1
           have grow1' := Lib.hid grow1; clear grow1)
        | fail)
      have hbN : Below w0.heap.size w0 w1 := (only_grown grow1'.out).below (fun k hk => by cases hk) (Nat.le_refl _)
      have hbN' := Lib.hid hbN; clear hbN grow1'
      obtain ⟨c, hc⟩ : ∃ c, (s[k]'hks).toNat = c := ⟨_, rfl⟩
      obtain ⟨F, hF⟩ : ∃ F, F = G.placesAt l ((bs s).take k).reverse := ⟨_, rfl⟩
      have hcc := hc127
      rw [hc] at hcc
      have hc' := Lib.hid hc; clear hc
      have hBF : BRow w0 B' (.slice (some ⟨ga, 0, none⟩) (l.length + 1) capa) F (l.length + 1) := by rw [hF]; exact hB'.out
      have hBF' := Lib.hid hBF; clear hBF hB'
      have hF' := Lib.hid hF; clear hF
      go_loopw [8] (fun s8 wx => ∃ i : Nat, s8 = .int .i64 i ∧ i ≤ l.length ∧ BRow wx w0.heap.size (.slice (some ⟨w0.heap.size, 0, none⟩) (l.length + 1) (l.length + 1)) (G.nxTo l F c i) (l.length + 1) ∧ Below w0.heap.size w0 wx) (fun s8 _ => l.length - (intOf s8).toNat)
      case atStart => exact ⟨0, rfl, by omega, by rw [G.nxTo_zero]; exact hN'.out, hbN'.out⟩
      case round =>
        clear hN' hbN'
        obtain ⟨i, rfl, hi, hN, hbN⟩ := hrel
        by_cases hil : i < l.length
        · obtain ⟨x, hx⟩ : ∃ x, l[i]? = some x := ⟨_, List.getElem?_eq_getElem hil⟩
          obtain ⟨ge, rfl, hge, hce⟩ := hpf'.out i x hx
          have hbx : Below w.heap.size w wr := hbw'.out.trans (hbN.mono hz)
          have ca := (hBF'.out.below hbN).cell (j := i) (by omega)
          have cn := hN.cell (j := i) (by omega)
          have cm := hN.cell (j := i + 1) (by omega)
          have fn := hN.frozen i
          have fm := hN.frozen (i + 1)
          have cs : wr.cell? ⟨ge, i * 130 + 0, none⟩ = some (.bool x.star) := ((hbx.cell (p := ⟨ge, i * 130 + 0, none⟩) hge).trans (hce 0 (by omega))).trans (elLR_star x)
          rw [Nat.add_zero] at cs
          have ct : wr.cell? ⟨ge, i * 130 + (2 + c), none⟩ = some (.bool (!x.star && x.set c)) := ((hbx.cell (p := ⟨ge, i * 130 + (2 + c), none⟩) hge).trans (hce (2 + c) (by omega))).trans (elLR_set x c (by omega))
          rw [← Nat.add_assoc] at ct
          have hst := G.starAt_some hx
          have hse := G.setAt_some (c := c) hx
          have i1 : (i : Int) + 1 < (l.length : Int) + 1 := by omega
          have i2 : (i : Int) < (l.length : Int) + 1 := by omega
          have i3 : (0 : Int) ≤ (i : Int) + 1 := by omega
          have i4 : (c : Int) < 128 := by omega
          have hn : (F i && x.star) = false → (F i && (!x.star && x.set c)) = false → BRow wr w0.heap.size (.slice (some ⟨w0.heap.size, 0, none⟩) (l.length + 1) (l.length + 1)) (G.nxTo l F c (i + 1)) (l.length + 1) := fun h h2 => hN.congr fun j _ => by
            rw [G.nxTo_no (by rw [hst]; exact h) (by rw [hse]; exact h2)]
          have hy : F i = true → x.star = true → BRow (wr.setCell ⟨w0.heap.size, i, none⟩ (.bool true)) w0.heap.size (.slice (some ⟨w0.heap.size, 0, none⟩) (l.length + 1) (l.length + 1)) (G.nxTo l F c (i + 1)) (l.length + 1) := fun h h2 => hN.store i true fun j _ => G.nxTo_star h (by rw [hst]; exact h2) j
          have hm : F i = true → (!x.star && x.set c) = true → ∀ n, BRow ((wr.drewN n).setCell ⟨w0.heap.size, i + 1, none⟩ (.bool true)) w0.heap.size (.slice (some ⟨w0.heap.size, 0, none⟩) (l.length + 1) (l.length + 1)) (G.nxTo l F c (i + 1)) (l.length + 1) := fun h h2 n => (hN.draws n).store (i + 1) true fun j _ => G.nxTo_set h (by rw [hse]; exact h2) j
          have hn' := Lib.hid hn; clear hn
          have hy' := Lib.hid hy; clear hy
          have hm' := Lib.hid hm; clear hm
          have hN' := Lib.hid hN; clear hN
          have hbN' := Lib.hid hbN; clear hbN hbx hst hse hx hce
          have hcc' := hc'.out
          generalize F i = a at *
          generalize x.set c = d at *
          generalize x.star = b at *
          cases a with
          | false =>
            go_wp2_with fail
            go_quiet (fail)
            go_wp2_with fail
            go_roundw
            case rel => exact ⟨i + 1, by go_num, by omega, (hn'.out (by first | rfl | trivial) (by first | rfl | trivial)).draws _, below_draws hbN'.out _⟩
            case measure => simp [intOf]; omega
          | true =>
            cases b with
            | true =>
              have hy2 := hy'.out rfl rfl
              have hb5 : Below w0.heap.size w0 (wr.setCell ⟨w0.heap.size, i, none⟩ (.bool true)) := below_cell hbN'.out (Nat.le_refl _) _ (Nat.le_refl _)
              go_upto_region 13 with fail
              have ca2 : (wr.setCell ⟨w0.heap.size, i, none⟩ (.bool true)).cell? ⟨ga, i, none⟩ = some (.bool true) := (World.cell?_setCell_far _ _ _ _ (by show w0.heap.size ≠ ga; omega)).trans ca
              have cs2 : (wr.setCell ⟨w0.heap.size, i, none⟩ (.bool true)).cell? ⟨ge, i * 130, none⟩ = some (.bool true) := (World.cell?_setCell_far _ _ _ _ (by show w0.heap.size ≠ ge; omega)).trans cs
              have hy2' := Lib.hid hy2; clear hy2
              have hb5' := Lib.hid hb5; clear hb5
              clear hy' hn' hm' hN' hbN' ca cs ct cn cm fn fm
              generalize wr.setCell ⟨w0.heap.size, i, none⟩ (.bool true) = w5 at *
              go_wp2_with fail
              go_quiet (fail)
              go_wp2_with fail
              go_roundw
              case rel => exact ⟨i + 1, by go_num, by omega, hy2'.out.draws _, below_draws hb5'.out _⟩
              case measure => simp [intOf]; omega
            | false =>
              cases d with
              | true =>
                simp only [Bool.not_false, Bool.true_and] at ct
                go_wp2_with fail
                go_quiet (fail)
                go_wp2_with fail
                go_roundw
                case rel => exact ⟨i + 1, by go_num, by omega, hm'.out (by first | rfl | trivial) (by first | rfl | trivial) _, below_cell (below_draws hbN'.out _) (Nat.le_refl _) _ (Nat.le_refl _)⟩
                case measure => simp [intOf]; omega
              | false =>
                simp only [Bool.not_false, Bool.true_and] at ct
                go_wp2_with fail
                go_quiet (fail)
                go_wp2_with fail
                go_roundw
                case rel => exact ⟨i + 1, by go_num, by omega, (hn'.out (by first | rfl | trivial) (by first | rfl | trivial)).draws _, below_draws hbN'.out _⟩
                case measure => simp [intOf]; omega
        · obtain rfl : i = l.length := by omega
          have hX : BRow wr w0.heap.size (.slice (some ⟨w0.heap.size, 0, none⟩) (l.length + 1) (l.length + 1)) (G.nx l F c) (l.length + 1) := hN.congr fun j hj => (G.nxTo_end (by omega)).symm
          have hbx : Below w.heap.size w wr := hbw'.out.trans (hbN.mono hz)
          have hP := places_any (hr'.out.below hbx) hX hl
          have hP' := Lib.hid hP; clear hP hX hN hbN
          have hbx' := Lib.hid hbx; clear hbx
          go_wp2_with fail
          refine hP'.out.mono ?_
          clear hP'
          rintro e w6 ⟨vb, rfl, hB6, hb6⟩
          have hb7 : Below w.heap.size w w6 := hbx'.out.trans (hb6.mono hbx'.out.size)
          have hB7 : BRow w6 wr.heap.size vb (G.placesAt l ((bs s).take (k + 1)).reverse) (l.length + 1) := by
            rw [hstep'.out c (by rw [← hc'.out]; exact hpk'.out), G.placesAt, ← hF'.out]
            exact hB6
          have hB7' := Lib.hid hB7; clear hB7 hB6
          have hb7' := Lib.hid hb7; clear hb7 hb6 hbx'
          go_wp2_with fail
          go_roundw
          case rel => exact ⟨k + 1, wr.heap.size, by go_num, by omega, hB7'.out, hb7'.out⟩
          case measure => simp [intOf]; omega
    · obtain rfl : k = s.size := by omega
      have c0 := hB.cell (j := l.length) (by omega)
      rw [List.take_of_length_le (by rw [length_bs]; exact Nat.le_refl _), G.placesAt_end] at c0
      have i1 : (l.length : Int) < (l.length : Int) + 1 := by omega
      have hbw' := Lib.hid hbw; clear hbw hB
      go_wp2_with fail
      go_ret
      exact ⟨rfl, hbw'.out⟩

end Go.Proofs.YtinjeijjfkkhbaaGreatDoor
