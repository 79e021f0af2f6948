/-
  LISTS OF PAIRS: cut, appended; what put makes of them. The step of a region that appends one.
-/
import Derived.Test.YtfihccfjboopiaaRefHas
import Derived.Test.YtfihccfjboopiaaRefApp
namespace Go.Proofs.Ytfihccfjboopiaa
open Go Go.RowKit

theorem prow_get {sz : Nat} : ∀ (l : List (List Value)), (∀ x ∈ l, x.length = sz) → ∀ (j : Nat) (u : Value), l.flatten[j]? = some u → ∃ k i xs, l[k]? = some xs ∧ xs[i]? = some u ∧ j = k * sz + i
  | [], _, j, u, h => by simp at h
  | x :: l, hl, j, u, h => by
    rw [List.flatten_cons] at h
    have hx := hl x (by simp)
    by_cases hj : j < x.length
    · rw [List.getElem?_append_left hj] at h
      exact ⟨0, j, x, rfl, h, by omega⟩
    · rw [List.getElem?_append_right (by omega)] at h
      obtain ⟨k, i, xs, h1, h2, h3⟩ := prow_get l (fun y hy => hl y (by simp [hy])) _ u h
      refine ⟨k + 1, i, xs, by simpa using h1, h2, ?_⟩
      rw [Nat.succ_mul]
      omega
theorem prow_at {sz : Nat} : ∀ (l : List (List Value)), (∀ x ∈ l, x.length = sz) → ∀ (k : Nat) (xs : List Value), l[k]? = some xs → ∀ (i : Nat) (u : Value), xs[i]? = some u → l.flatten[k * sz + i]? = some u
  | [], _, k, xs, h, _, _, _ => by cases h
  | x :: l, hl, 0, xs, h, i, u, hu => by
    simp at h
    subst h
    rw [List.flatten_cons, Nat.zero_mul, Nat.zero_add, List.getElem?_append_left (List.getElem?_eq_some_iff.1 hu).1]
    exact hu
  | x :: l, hl, k + 1, xs, h, i, u, hu => by
    have hx := hl x (by simp)
    have := prow_at l (fun y hy => hl y (by simp [hy])) k xs (by simpa using h) i u hu
    rw [List.flatten_cons, List.getElem?_append_right (by rw [Nat.succ_mul]; omega)]
    rw [← this]
    congr 1
    rw [Nat.succ_mul]
    omega
theorem prow_length {sz : Nat} : ∀ (l : List (List Value)), (∀ x ∈ l, x.length = sz) → l.flatten.length = l.length * sz
  | [], _ => by simp
  | x :: l, hl => by
    rw [List.flatten_cons, List.length_append, prow_length l (fun y hy => hl y (by simp [hy])), hl x (by simp), List.length_cons, Nat.succ_mul]
    omega
theorem paddr_add (g o n : Nat) : (⟨g, o, none⟩ : Addr).add n = ⟨g, o + n, none⟩ := by
  unfold Addr.add
  split
  · rename_i h; rw [h]; rfl
  · rfl

def flatP (l : List PE) : List Value := (l.map pairC).flatten
theorem pair_five (l : List PE) : ∀ x ∈ l.map pairC, x.length = 5 := fun x hx => by
  obtain ⟨y, _, rfl⟩ := List.mem_map.1 hx
  rfl
theorem rpair_one (l : List PE) : ∀ u ∈ flatP l, u.oneCell' = true := fun u hu => by
  obtain ⟨x, hx, hu⟩ := List.mem_flatten.1 hu
  obtain ⟨y, _, rfl⟩ := List.mem_map.1 hx
  simp [pairC] at hu
  rcases hu with rfl | rfl | rfl | rfl | rfl <;> rfl
theorem flatP_app (l m : List PE) : flatP (l ++ m) = flatP l ++ flatP m := by simp [flatP]
theorem flatP_len (l : List PE) : (flatP l).length = l.length * 5 := by
  have := prow_length (l.map pairC) (pair_five l)
  rw [List.length_map] at this
  exact this
theorem rinfo_pair : (Try.prog.info? 97).map (fun i => (i.zero, i.size, i.bytes)) = some (some (.agg #[.int .i64 0, .int .i64 0, .int .i64 0, .int .i64 0, .string ⟨#[]⟩]), 5, 48) := by kernel_rfl

/-- A row of pairs of the call's own, from block B on. -/
def OwnP (w : World) (B : Nat) (p : Option Addr) (n c : Nat) (l : List PE) : Prop := l.length = n ∧ w.ownsRow B 97 5 (.slice p n c) n (flatP l)
/-- Pairs to be read, in a slice that can be cut. -/
def PrIn (w : World) (a : Option Addr) (n c : Nat) (l : List PE) : Prop := PairsAt w (.slice a n c) l ∧ l.length = n ∧ n ≤ c
theorem PairsAt.news {w : World} {a : Option Addr} {n c : Nat} {l : List PE} (h : PairsAt w (.slice a n c) l) : ∀ b, a = some b → ∀ j u, (flatP l)[j]? = some u → w.cell? (b.add j) = some u := fun b hb j u hu => by
  obtain ⟨k, i, xs, h1, h2, rfl⟩ := prow_get (l.map pairC) (pair_five l) j u hu
  rcases h.2 with ⟨h0, _⟩ | ⟨g', o', cap', h0, _, hc⟩
  · cases h0; cases hb
  · cases h0; cases hb
    have := hc k xs h1 i u h2
    rw [paddr_add, ← Nat.add_assoc]
    exact this
theorem PairsAt.some {w : World} {a : Option Addr} {n c : Nat} {l : List PE} (h : PairsAt w (.slice a n c) l) (h0 : 0 < n) : a ≠ none := fun e => by
  subst e
  rcases h.2 with ⟨h1, _⟩ | ⟨g', o', cap', h1, _⟩
  · cases h1; omega
  · cases h1
theorem OwnP.pairs {w : World} {B : Nat} {p : Option Addr} {n c : Nat} {l : List PE} (h : OwnP w B p n c l) (h9 : n ≤ 9223372036854775807) : PrIn w p n c l := by
  obtain ⟨hn, ho⟩ := h
  have hcap : n ≤ c := by
    rcases ho.2 with ⟨h, h0⟩ | ⟨g, cap, cur, h, _, _, h1, _⟩
    · omega
    · cases h; exact h1
  refine ⟨⟨by rw [List.length_map, hn]; exact h9, ?_⟩, hn, hcap⟩
  rcases ho.2 with ⟨h, h0⟩ | ⟨g, cap, cur, h, _, hg, _⟩
  · exact .inl ⟨h, by rw [List.map_eq_nil_iff]; exact List.eq_nil_of_length_eq_zero (by omega)⟩
  · refine .inr ⟨g, 0, cap, by rw [List.length_map, hn, h], (Array.getElem?_eq_some_iff.1 hg).1, fun k xs hx j u hu => ?_⟩
    have hk : k < l.length := by simpa using (List.getElem?_eq_some_iff.1 hx).1
    have hj : j < 5 := by rw [← pair_five l xs (List.mem_of_getElem? hx)]; exact (List.getElem?_eq_some_iff.1 hu).1
    have hfl := prow_at (l.map pairC) (pair_five l) k xs hx j u hu
    have hlt : k * 5 + j < n * 5 := by omega
    rw [Nat.zero_add]
    cases h
    exact (World.ownsRow.cellAt ho (k * 5 + j) hlt).trans hfl
theorem PrIn.below {w w' : World} {a : Option Addr} {n c : Nat} {l : List PE} (h : PrIn w a n c l) (hb : Below w.heap.size w w') : PrIn w' a n c l := ⟨RowAt.below h.1 hb, h.2⟩
theorem PrIn.nil (w : World) : PrIn w none 0 0 [] := ⟨⟨Nat.zero_le _, .inl ⟨rfl, rfl⟩⟩, rfl, Nat.le_refl _⟩
/-- A slice's beginning. -/
theorem PrIn.lo {w : World} {a : Option Addr} {n c k : Nat} {l : List PE} (h : PrIn w a n c l) (hk : k ≤ n) : PairsAt w (sliced a 0 k c 5) (l.take k) := by
  obtain ⟨⟨h1, h2⟩, hn, hc⟩ := h
  rw [List.length_map] at h1
  have hkl : (l.take k).length = k := by rw [List.length_take]; omega
  refine ⟨by rw [List.length_map, hkl]; omega, ?_⟩
  rcases h2 with ⟨h, h0⟩ | ⟨g, o, cap, h, hg, hcc⟩
  · rw [List.map_eq_nil_iff] at h0
    subst h0
    cases h
    simp at hn
    obtain rfl : k = 0 := by omega
    exact .inl ⟨rfl, rfl⟩
  · cases h
    refine .inr ⟨g, o, c, ?_, hg, fun i xs hx j u hu => ?_⟩
    · unfold sliced
      rw [List.length_map, hkl, Option.map_some, paddr_add]
      simp
    · rw [List.map_take, List.getElem?_take] at hx
      split at hx
      · exact hcc i xs hx j u hu
      · cases hx
/-- A slice's end. -/
theorem PrIn.hi {w : World} {a : Option Addr} {n c k : Nat} {l : List PE} (h : PrIn w a n c l) (hk : k ≤ n) : PairsAt w (sliced a k n c 5) (l.drop k) := by
  obtain ⟨⟨h1, h2⟩, hn, hc⟩ := h
  rw [List.length_map] at h1
  have hkl : (l.drop k).length = n - k := by rw [List.length_drop]; omega
  refine ⟨by rw [List.length_map, hkl]; omega, ?_⟩
  rcases h2 with ⟨h, h0⟩ | ⟨g, o, cap, h, hg, hcc⟩
  · rw [List.map_eq_nil_iff] at h0
    subst h0
    cases h
    simp at hn
    obtain rfl : k = 0 := by omega
    exact .inl ⟨rfl, rfl⟩
  · cases h
    by_cases hck : c = k
    · refine .inr ⟨g, o, c - k, ?_, hg, fun i xs hx j u hu => ?_⟩
      · unfold sliced
        rw [if_pos hck]
        simp only [List.length_map, List.length_drop]
      · have : i < ((l.drop k).map pairC).length := (List.getElem?_eq_some_iff.1 hx).1
        rw [List.length_map, hkl] at this
        omega
    · refine .inr ⟨g, o + k * 5, c - k, ?_, hg, fun i xs hx j u hu => ?_⟩
      · unfold sliced
        rw [if_neg hck, Option.map_some, paddr_add]
        simp only [List.length_map, List.length_drop]
      · rw [List.map_drop, List.getElem?_drop] at hx
        rw [← hcc (k + i) xs hx j u hu]
        congr 2
        rw [Nat.add_mul]
        omega

section
variable {ops : Array Oper} {o : Oper} {a : Act} {w : World} {K : Act → World → Prop} {Q : Exit → Act → World → Prop} {E : Prop}
/-- append of pairs onto a row of the call's own. -/
theorem step_app_pairs (hgd : o.guard = none) (s x : Operand) (B : Nat) (p : Option Addr) (n cp : Nat) (L : List PE) (V : Value) (l : List PE)
    (ho : o.op = .call { callee := .builtin .append, args := #[s, x], argTypes := #[95, 95] })
    (hs : a.eval s = .slice p n cp) (hown : OwnP w B p n cp L) (hx : a.eval x = V) (hV : PairsAt w V l)
    (N : Nat) (hN : n + l.length = N) (hn : N ≤ 1000000000000) (hbase : B ≤ w.heap.size)
    (h : ∀ p' cp' w', OwnP w' B p' N cp' (L ++ l) → Only (fun k => (Value.slice p n cp).ownBlock = some k) w w' → K (a.put o.dst (.slice p' N cp')) w') :
    if Region.wanted o (yielded ops a.tmps) = true then Oper.wp Try.prog o a w K Q else E := by
  subst hN
  obtain ⟨i, hi, hz, hsz, hby⟩ := info_parts rinfo_pair
  obtain ⟨ad, c, rfl⟩ : ∃ ad c, V = .slice ad l.length c := by
    rcases hV.2 with ⟨hv, h0⟩ | ⟨g, o, cap, hv, _⟩
    · rw [List.map_eq_nil_iff] at h0
      subst h0
      exact ⟨none, 0, hv⟩
    · exact ⟨_, cap, by rw [hv, List.length_map]⟩
  refine step_append_all hgd s x 95 ho B 97 i (.agg #[.int .i64 0, .int .i64 0, .int .i64 0, .int .i64 0, .string ⟨#[]⟩]) 5 48 Try.underlying95 hi hz hsz hby rfl (by decide) p n cp (flatP L) hs hown.2 ad l.length c (flatP l) hx (flatP_len l) hV.news hV.some (rpair_one l) (by simp only [maxLen]; omega) (by omega) hbase fun p' cp' w' h1 h2 => h p' cp' w' ⟨?_, ?_⟩ h2
  · rw [List.length_append, hown.1]
  · rw [flatP_app]; exact h1
end

/-! WHAT put MAKES. -/
theorem tle_less (s t : ByteArray) : (Op.bytesLess s.toList t.toList || s.toList == t.toList) = G.tle (bs s) (bs t) := by
  rw [less_tlt]
  have e : (s.toList == t.toList) = decide (bs s = bs t) := by
    rw [ByteArray.toList_eq, ByteArray.toList_eq]
    have h : ∀ a b : List UInt8, (a == b) = decide (a.map UInt8.toNat = b.map UInt8.toNat) := fun a b => by
      rw [Bool.eq_iff_iff, beq_iff_eq, decide_eq_true_eq]
      exact ⟨fun h => by rw [h], fun h => List.map_inj_right (fun _ _ => UInt8.toNat_inj.1) |>.1 h⟩
    exact h _ _
  rw [e, Bool.eq_iff_iff, G.tle_iff, Bool.or_eq_true, decide_eq_true_eq]
  exact Or.comm
theorem ins_at {z : PE} : ∀ {l : List PE} {n : Nat}, n ≤ l.length → (∀ x ∈ l.take n, G.tle (bs x.2) (bs z.2) = true) → (∀ x, l[n]? = some x → G.tle (bs x.2) (bs z.2) = false) → (l.take n ++ z :: l.drop n).map entOf = G.insP (l.map entOf) (entOf z)
  | [], n, _, _, _ => by simp [G.insP]
  | x :: l, 0, _, _, h => by
    have := h x rfl
    simp only [List.take_zero, List.drop_zero, List.nil_append, List.map_cons, G.insP]
    rw [if_neg]
    show ¬ G.tle (bs x.2) (bs z.2) = true
    rw [this]
    exact Bool.false_ne_true
  | x :: l, n + 1, hn, h1, h2 => by
    have h := h1 x (by simp)
    have ih := ins_at (z := z) (l := l) (n := n) (by simpa using hn) (fun y hy => h1 y (by simp [hy])) (fun y hy => h2 y (by simpa using hy))
    simp only [List.take_succ_cons, List.drop_succ_cons, List.cons_append, List.map_cons, G.insP] at ih ⊢
    rw [if_pos (show G.tle (entOf x).2 (entOf z).2 = true from h), ← ih]
theorem del_at {z : G.Pos} : ∀ {l : List PE} {k : Nat} {x : PE}, l[k]? = some x → x.1 = z → (∀ y ∈ l.take k, y.1 ≠ z) → (l.take k ++ l.drop (k + 1)).map entOf = G.delP (l.map entOf) z
  | [], _, _, h, _, _ => by cases h
  | y :: l, 0, x, h, hx, _ => by
    simp at h
    subst h
    simp only [List.take_zero, List.nil_append, List.drop_succ_cons, List.drop_zero, List.map_cons, G.delP]
    rw [if_pos (show (entOf y).1 = z from hx)]
  | y :: l, k + 1, x, h, hx, hno => by
    have ih := del_at (z := z) (l := l) (k := k) (by simpa using h) hx (fun u hu => hno u (by simp [hu]))
    simp only [List.take_succ_cons, List.drop_succ_cons, List.cons_append, List.map_cons, G.delP] at ih ⊢
    rw [if_neg (show ¬ (entOf y).1 = z from hno y (by simp)), ← ih]

end Go.Proofs.Ytfihccfjboopiaa
