/-
  WHAT glob.Common ANSWERS, and the parts of its walk that are plain.
-/
import Derived.Test.YtfihccfjboopiaaComLeast
import Derived.Test.YtfihccfjboopiaaGlobMatchFn
import Derived.Laws.BytesArg
namespace Go.Proofs.Ytfihccfjboopiaa
open Go.RowKit Go.Maps

/-- The answer of Common at two texts. -/
def ComIs (p q s : List Nat) (ok : Bool) (er : Int) : Prop :=
  (errS p ≠ 0 → s = [] ∧ ok = false ∧ er = errS p) ∧ (errS p = 0 → errS q ≠ 0 → s = [] ∧ ok = false ∧ er = errS q) ∧
  (errS p = 0 → errS q = 0 → er = 0 ∧ (ok = false → s = []) ∧ G.IsCommon (G.matchS p) (G.matchS q) (if ok then some s else none))
def ComPost (p q : ByteArray) (w : World) (e : Ending) (w' : World) : Prop :=
  ∃ (s : ByteArray) (ok : Bool) (er : Int), e = .returned (.tuple #[.string s, .bool ok, .int .i64 er]) ∧ Below w.heap.size w w' ∧ ComIs (bs p) (bs q) (bs s) ok er ∧ s.size ≤ 512

theorem errS_zero {p : List Nat} (h : errS p = 0) : ∃ l, G.alts p = some l := by
  cases ha : G.alts p with
  | some l => exact ⟨l, rfl⟩
  | none =>
    rcases errS_none ha with h2 | h2
    · rw [h] at h2; cases h2
    · rw [h] at h2; cases h2

/-- The pairs with which the search begins, as far as i rows and j of the next one. -/
def BegIs (_P Q : List (List G.El)) (i j : Nat) (xs : List G.Pos) : Prop :=
  xs.length = i * Q.length + j ∧ ∀ x, x ∈ xs ↔ x.i = 0 ∧ x.j = 0 ∧ x.b < Q.length ∧ (x.a < i ∨ x.a = i ∧ x.b < j)
theorem BegIs.start (P Q : List (List G.El)) : BegIs P Q 0 0 [] :=
  ⟨by simp, fun x => ⟨fun h => (by cases h), fun ⟨_, _, _, h⟩ => (by rcases h with h | h <;> omega)⟩⟩
theorem BegIs.more {P Q : List (List G.El)} {i j : Nat} {xs : List G.Pos} (h : BegIs P Q i j xs) (hj : j < Q.length) : BegIs P Q i (j + 1) (xs ++ [⟨i, 0, j, 0⟩]) := by
  refine ⟨by rw [List.length_append, h.1]; simp; omega, fun x => ?_⟩
  rw [List.mem_append, h.2 x, List.mem_singleton]
  obtain ⟨a, i', b, j'⟩ := x
  simp only [G.Pos.mk.injEq]
  omega
theorem BegIs.row {P Q : List (List G.El)} {i : Nat} {xs : List G.Pos} (h : BegIs P Q i Q.length xs) : BegIs P Q (i + 1) 0 xs := by
  refine ⟨by rw [h.1, Nat.add_mul]; omega, fun x => ?_⟩
  rw [h.2 x]
  omega
theorem BegIs.all {P Q : List (List G.El)} {xs : List G.Pos} (h : BegIs P Q P.length 0 xs) : (∀ x, x ∈ xs → G.InP P Q x) ∧ ∀ z, z ∈ xs.map (G.prOf P Q) ↔ z ∈ G.pairs P Q := by
  constructor
  · intro x hx
    have := (h.2 x).1 hx
    refine ⟨by omega, this.2.2.1, ?_, ?_⟩
    · rw [this.1]; omega
    · rw [this.2.1]; omega
  · intro z
    rw [List.mem_map, G.mem_pairs]
    constructor
    · rintro ⟨x, hx, rfl⟩
      have := (h.2 x).1 hx
      have ha : x.a < P.length := by omega
      unfold G.prOf
      rw [this.1, this.2.1]
      simp only [List.drop_zero]
      refine ⟨?_, ?_⟩
      · rw [List.getD_eq_getElem?_getD, List.getElem?_eq_getElem ha]; exact List.getElem_mem ha
      · rw [List.getD_eq_getElem?_getD, List.getElem?_eq_getElem this.2.2.1]; exact List.getElem_mem this.2.2.1
    · rintro ⟨h1, h2⟩
      obtain ⟨a, ha, hp⟩ := List.getElem_of_mem h1
      obtain ⟨b, hb, hq⟩ := List.getElem_of_mem h2
      refine ⟨⟨a, 0, b, 0⟩, (h.2 _).2 ⟨rfl, rfl, hb, .inl ha⟩, ?_⟩
      obtain ⟨z1, z2⟩ := z
      unfold G.prOf
      simp only [List.drop_zero, Prod.mk.injEq]
      exact ⟨by rw [List.getD_eq_getElem?_getD, List.getElem?_eq_getElem ha]; exact hp, by rw [List.getD_eq_getElem?_getD, List.getElem?_eq_getElem hb]; exact hq⟩

/-- The least cost so far. -/
def BestIs (P Q : List (List G.El)) (xs : List G.Pos) (best : Int) : Prop :=
  (best = -1 ∧ ∀ x, x ∈ xs → G.cOf P Q x = none) ∨ ∃ n : Nat, best = n ∧ (∃ x, x ∈ xs ∧ G.cOf P Q x = some n) ∧ ∀ x, x ∈ xs → ∀ k, G.cOf P Q x = some k → n ≤ k
theorem BestIs.more {P Q : List (List G.El)} {xs : List G.Pos} {best : Int} (h : BestIs P Q xs best) (x : G.Pos) : BestIs P Q (xs ++ [x]) (G.lessI best (G.toI (G.cOf P Q x))) := by
  have hm : ∀ y, y ∈ xs ++ [x] → y ∈ xs ∨ y = x := fun y hy => by
    rcases List.mem_append.1 hy with hy | hy
    · exact .inl hy
    · exact .inr (by simpa using hy)
  cases hc : G.cOf P Q x with
  | none =>
    have : G.lessI best (G.toI none) = best := by unfold G.lessI; rw [if_neg (by rintro ⟨h, _⟩; simp [G.toI] at h)]
    rw [this]
    rcases h with ⟨h1, h2⟩ | ⟨n, h1, ⟨z, h2, h3⟩, h4⟩
    · refine .inl ⟨h1, fun y hy => ?_⟩
      rcases hm y hy with hy | rfl
      · exact h2 y hy
      · exact hc
    · refine .inr ⟨n, h1, ⟨z, List.mem_append_left _ h2, h3⟩, fun y hy k hk => ?_⟩
      rcases hm y hy with hy | rfl
      · exact h4 y hy k hk
      · rw [hc] at hk; cases hk
  | some m =>
    rcases h with ⟨h1, h2⟩ | ⟨n, h1, ⟨z, h2, h3⟩, h4⟩
    · have : G.lessI best (G.toI (some m)) = (m : Int) := by unfold G.lessI; rw [if_pos (by simp only [G.toI]; omega)]; rfl
      rw [this]
      refine .inr ⟨m, rfl, ⟨x, by simp, hc⟩, fun y hy k hk => ?_⟩
      rcases hm y hy with hy | rfl
      · rw [h2 y hy] at hk; cases hk
      · rw [hc] at hk; cases hk; exact Nat.le_refl _
    · by_cases hlt : m < n
      · have : G.lessI best (G.toI (some m)) = (m : Int) := by unfold G.lessI; rw [if_pos (by simp only [G.toI]; omega)]; rfl
        rw [this]
        refine .inr ⟨m, rfl, ⟨x, by simp, hc⟩, fun y hy k hk => ?_⟩
        rcases hm y hy with hy | rfl
        · have := h4 y hy k hk; omega
        · rw [hc] at hk; cases hk; exact Nat.le_refl _
      · have : G.lessI best (G.toI (some m)) = best := by unfold G.lessI; rw [if_neg (by simp only [G.toI]; omega)]
        rw [this]
        refine .inr ⟨n, h1, ⟨z, List.mem_append_left _ h2, h3⟩, fun y hy k hk => ?_⟩
        rcases hm y hy with hy | rfl
        · exact h4 y hy k hk
        · rw [hc] at hk; cases hk; omega
theorem BestIs.ge {P Q : List (List G.El)} {xs : List G.Pos} {best : Int} (h : BestIs P Q xs best) : -1 ≤ best := by
  rcases h with ⟨h, _⟩ | ⟨n, h, _⟩ <;> omega

/-- One byte more of the least text. -/
theorem at_more {P Q : List (List G.El)} (hg : G.GoodA P) {S0 : List G.Pr} {best n b : Nat} {text : List Nat} {xs ys rs : List G.Pos} (h : G.At S0 best text (xs.map (G.prOf P Q)) (n + 1)) (hs : SprEnd P Q (n + 1) xs ys) (hl : LeastInv P Q n ys b rs) :
    G.At S0 best (text ++ [b]) (rs.map (G.prOf P Q)) n ∧ b ≤ 126 ∧ ∀ r, r ∈ rs → G.InP P Q r := by
  have gA : ∀ x, x ∈ ys.map (G.prOf P Q) → G.GoodP x := fun x hx => by
    obtain ⟨x0, h0, hk⟩ := hs.closed.from_ x hx
    exact (h.good x0 h0).skips hk
  have hstep : ∀ y, y ∈ ys → ∀ c z, G.Steps (G.prOf P Q y) c z ↔ G.okOf P Q y = true ∧ G.bothOf P Q y c = true ∧ z = G.prOf P Q (G.nextOf P Q y) := fun y hy c z => G.steps_iff hg (hs.in_ y hy).1
  have hex : ∃ x, x ∈ ys ∧ Cand P Q n x ∧ G.bothOf P Q x b = true := by
    rcases hl.some_ with ⟨_, h2⟩ | h2
    · exfalso
      obtain ⟨x, hx, hc⟩ := h.some_
      obtain ⟨s, hr, hsl⟩ := (h.good x hx).cost.1 _ hc
      obtain ⟨y, z, c, s', hy, hst, hrz, rfl⟩ := hs.closed.first gA hr (hs.closed.begin_ x hx hc) hsl
      obtain ⟨y', hy', rfl⟩ := List.mem_map.1 hy
      obtain ⟨hok, hb, rfl⟩ := (hstep y' hy' c z).1 hst
      have hcz : G.costP (G.prOf P Q (G.nextOf P Q y')) = some n := G.costP_of ((gA _ hy).steps hst) ⟨s', hrz, by simpa using hsl⟩ fun u hu => by
        have := G.costP_low (gA _ hy) (hs.closed.cost_ _ hy) (hst.run hu)
        simpa using this
      exact h2 y' hy' ⟨hok, hcz⟩
    · exact h2
  refine ⟨h.step hs.closed ?_ ?_ ?_, ?_, ?_⟩
  · obtain ⟨x, hx, hc, hb⟩ := hex
    exact ⟨_, _, List.mem_map.2 ⟨x, hx, rfl⟩, (hstep x hx b _).2 ⟨hc.1, hb, rfl⟩, hc.2⟩
  · intro y z c hy hst hcz
    obtain ⟨y', hy', rfl⟩ := List.mem_map.1 hy
    obtain ⟨hok, hb, rfl⟩ := (hstep y' hy' c z).1 hst
    exact hl.low y' c hy' ⟨hok, hcz⟩ hb
  · intro z
    rw [List.mem_map]
    constructor
    · rintro ⟨r, hr, rfl⟩
      obtain ⟨y, hy, hc, hb, rfl⟩ := (hl.rs_ r).1 hr
      exact ⟨_, List.mem_map.2 ⟨y, hy, rfl⟩, (hstep y hy b _).2 ⟨hc.1, hb, rfl⟩, hc.2⟩
    · rintro ⟨y, hy, hst, hcz⟩
      obtain ⟨y', hy', rfl⟩ := List.mem_map.1 hy
      obtain ⟨hok, hb, rfl⟩ := (hstep y' hy' b z).1 hst
      exact ⟨_, (hl.rs_ _).2 ⟨y', hy', ⟨hok, hcz⟩, hb, rfl⟩, rfl⟩
  · obtain ⟨x, hx, hc, hb⟩ := hex
    unfold G.bothOf at hb
    simp only [Bool.and_eq_true, G.pr, decide_eq_true_eq] at hb
    exact hb.1.2
  · intro r hr
    obtain ⟨y, hy, hc, hb, rfl⟩ := (hl.rs_ r).1 hr
    exact (G.next_in (hs.in_ y hy) hc.1).1

theorem at_congr {S0 S0' : List G.Pr} {best n : Nat} {text : List Nat} {S : List G.Pr} (h : G.At S0 best text S n) (hS : ∀ z, z ∈ S0 ↔ z ∈ S0') : G.At S0' best text S n :=
  ⟨h.len, h.good, h.low, h.some_, fun x hx s hs hl => by
    obtain ⟨x0, h0, hr⟩ := h.sound x hx s hs hl
    exact ⟨x0, (hS x0).1 h0, hr⟩, fun x0 h0 t ht hl => h.least x0 ((hS x0).2 h0) t ht hl⟩

/-- A text out of its bytes. -/
theorem bs_nums {l : List Nat} (h : ∀ c, c ∈ l → c ≤ 255) : bs (strOfNums (l.map fun c : Nat => (c : Int))) = l := by
  unfold bs strOfNums
  simp only [List.map_map]
  induction l with
  | nil => rfl
  | cons c l ih =>
    have hc := h c (by simp)
    have ih' := ih fun d hd => h d (List.mem_cons_of_mem _ hd)
    simp only [List.map_cons, List.cons.injEq]
    refine ⟨?_, ih'⟩
    simp only [Function.comp]
    have : (UInt8.ofNat ((c : Int).toNat)).toNat = c := by simp; omega
    simpa using this

end Go.Proofs.Ytfihccfjboopiaa
