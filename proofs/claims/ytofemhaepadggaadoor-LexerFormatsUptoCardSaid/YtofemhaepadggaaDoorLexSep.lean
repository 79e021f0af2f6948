/-
  WHAT THE LAWS OF WRITTEN TOKENS WANT: the tokens that the maker makes can be written; separators.
-/
import Derived.Test.YtofemhaepadggaaDoorLexBackP
import Derived.Test.YtofemhaepadggaaDoorLexLaw
namespace Go.Proofs.YtofemhaepadggaaDoor
open Go.RowKit

theorem gK_good : ∀ s ∈ gK, bs s ≠ [] ∧ (bs s).all L.letter = true := by decide
theorem gN_good : ∀ s ∈ gN, (bs s).all L.inName = true := by decide
theorem gO_good : ∀ s ∈ gO, L.opsL.contains (bs s) = true := by decide
theorem gV_good : ∀ s ∈ gV, (bs s).all L.valB = true ∧ (bs s).getLast? ≠ some 92 := by decide
theorem InGen.good {x : TB} (h : InGen x) : L.good x.tok = true :=
  L.good_of (gK_good _ h.1).1 (gK_good _ h.1).2 (gN_good _ h.2.1) (gO_good _ h.2.2.1) (gV_good _ h.2.2.2).1 (gV_good _ h.2.2.2).2
theorem Small.one_len {x : TB} (h : Small x) : (L.one x.tok).length ≤ 44 := by
  have h1 := L.one_len x.tok
  obtain ⟨a, b, c, d⟩ := h
  have e1 : x.tok.k.length = x.k.size := length_bs _
  have e2 : x.tok.n.length = x.n.size := length_bs _
  have e3 : x.tok.o.length = x.o.size := length_bs _
  have e4 : x.tok.v.length = x.v.size := length_bs _
  omega
theorem fmt_small {l : List TB} (h1 : ∀ x ∈ l, InGen x) (h2 : l.length ≤ 4) : L.fmt (l.map TB.tok) = (L.sepFirst ((l.map TB.tok).map L.one), 0) ∧ (L.sepFirst ((l.map TB.tok).map L.one)).length ≤ 1024 := by
  have hg : ∀ x ∈ l.map TB.tok, L.good x = true := fun x hx => by
    obtain ⟨y, hy, rfl⟩ := List.mem_map.1 hx
    exact (h1 y hy).good
  have hl := L.sepFirst_len ((l.map TB.tok).map L.one) 44 fun x hx => by
    obtain ⟨y, hy, rfl⟩ := List.mem_map.1 hx
    obtain ⟨z, hz, rfl⟩ := List.mem_map.1 hy
    exact (h1 z hz).small.one_len
  rw [List.length_map, List.length_map] at hl
  have : (L.sepFirst ((l.map TB.tok).map L.one)).length ≤ 1024 := by omega
  rw [L.fmt_good hg, if_neg (by omega)]
  exact ⟨rfl, this⟩
def sA : List ByteArray := [⟨#[]⟩, ⟨#[32]⟩, ⟨#[44, 44]⟩, ⟨#[9, 32]⟩]
def sB : List ByteArray := [⟨#[32]⟩, ⟨#[44]⟩, ⟨#[9]⟩, ⟨#[32, 44, 32]⟩, ⟨#[44, 44]⟩]
theorem sA_sep : ∀ s ∈ sA, (bs s).all L.sepL = true ∧ s.size ≤ 3 := by decide
theorem sB_sep : ∀ s ∈ sB, (bs s).all L.sepL = true ∧ bs s ≠ [] ∧ s.size ≤ 3 := by decide
theorem L.wr_snoc : ∀ (P : List (L.Tok × List Nat)) (p : L.Tok × List Nat), L.wr (P ++ [p]) = L.wr P ++ (L.one p.1 ++ p.2)
  | [], p => by simp [L.wr]
  | q :: P, p => by
    rw [List.cons_append, L.wr, L.wr_snoc P p, L.wr]
    simp only [List.append_assoc]
/-- A line under way: what stands ahead, the first k tokens, each with separators behind it. -/
def SepAt (s0 S : ByteArray) (l : List TB) (k : Nat) : Prop :=
  ∃ P : List (L.Tok × List Nat), P.map Prod.fst = (l.take k).map TB.tok ∧ bs S = bs s0 ++ L.wr P ∧ ∀ p ∈ P, p.2.all L.sepL = true ∧ p.2 ≠ []
theorem SepAt.start (s0 : ByteArray) (l : List TB) : SepAt s0 s0 l 0 := ⟨[], rfl, by simp [L.wr], fun p hp => by cases hp⟩
theorem SepAt.next {s0 S X t : ByteArray} {l : List TB} {k : Nat} {x : TB} (h : SepAt s0 S l k) (hx : l[k]? = some x) (hX : bs X = L.one x.tok) (ht : t ∈ sB) : SepAt s0 (S ++ (X ++ t)) l (k + 1) := by
  obtain ⟨P, h1, h2, h3⟩ := h
  refine ⟨P ++ [(x.tok, bs t)], ?_, ?_, fun p hp => ?_⟩
  · rw [List.take_add_one, hx, List.map_append, h1, List.map_append]; rfl
  · rw [bs_app, bs_app, h2, hX, L.wr_snoc, List.append_assoc]
  · rcases List.mem_append.1 hp with hp | hp
    · exact h3 p hp
    · simp at hp
      subst hp
      exact ⟨(sB_sep _ ht).1, (sB_sep _ ht).2.1⟩
theorem SepAt.tokens {s0 S : ByteArray} {l : List TB} {k : Nat} (h : SepAt s0 S l k) (hk : l.length = k) (hg : ∀ x ∈ l, InGen x) (h0 : (bs s0).all L.sepL = true) (hS : S.size ≤ 1024) : L.tokensS (bs S) = (l.map TB.tok, 0) := by
  obtain ⟨P, h1, h2, h3⟩ := h
  rw [List.take_of_length_le (by omega)] at h1
  rw [h2, ← h1]
  refine L.tokensS_wr _ P h0 (fun p hp => ⟨?_, (h3 p hp).1⟩) (fun a c p e _ => (h3 p (by rw [e]; simp)).2) (by rw [← h2, length_bs]; exact hS)
  have : p.1 ∈ l.map TB.tok := by rw [← h1]; exact List.mem_map.2 ⟨p, hp, rfl⟩
  obtain ⟨y, hy, e⟩ := List.mem_map.1 this
  rw [← e]
  exact (hg y hy).good
theorem Toks.row {w : World} {B : Nat} {v : Value} {l : List TB} (h : Toks w B v l) : TokRow w v l := by
  have h' : w.ownsRow B 40 4 v l.length (flatT l) := h
  rcases h'.2 with ⟨rfl, h0⟩ | ⟨g, cap, cur, rfl, _, hg, _⟩
  · exact .inl ⟨rfl, List.eq_nil_of_length_eq_zero h0⟩
  · refine .inr ⟨g, 0, cap, rfl, (Array.getElem?_eq_some_iff.1 hg).1, fun k x hx => ?_⟩
    have hk : k < l.length := (List.getElem?_eq_some_iff.1 hx).1
    obtain ⟨h0, h1, h2, h3⟩ := flatT_get l k x hx
    simp only [Nat.zero_add]
    exact ⟨(World.ownsRow.cellAt h' _ (by omega)).trans h0, (World.ownsRow.cellAt h' _ (by omega)).trans h1, (World.ownsRow.cellAt h' _ (by omega)).trans h2, (World.ownsRow.cellAt h' _ (by omega)).trans h3⟩

end Go.Proofs.YtofemhaepadggaaDoor
