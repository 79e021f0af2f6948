/-
  THE WALK of coldplugref02.step; alternatives as cells.
-/
import Derived.Test.YtfihccfjboopiaaRefComR
import Derived.Test.YtfihccfjboopiaaRefOne
namespace Go.Proofs.Ytfihccfjboopiaa
open Go Go.RowKit

theorem alts_parts {w : World} {B : Nat} {v : Value} {l : List (List G.El)} (h : AltsR w B v l) :
    ∃ p cap, v = .slice p l.length cap ∧ ∀ k a, l[k]? = some a → ∃ g u, p = some ⟨g, 0, none⟩ ∧ g < w.heap.size ∧ w.cell? ⟨g, k, none⟩ = some u ∧ RowR w B u a := by
  obtain ⟨vs, h1, h2⟩ := h
  by_cases hl : 0 < l.length
  · obtain ⟨g, cap, hv, h3, h4⟩ := World.ownsRow.form h1 hl
    subst hv
    refine ⟨_, cap, rfl, fun k a ha => ?_⟩
    obtain ⟨u, hu, hr⟩ := h2 k a ha
    have hk := (List.getElem?_eq_some_iff.1 ha).1
    exact ⟨g, u, rfl, h4, by rw [World.ownsRow.cellAt h1 k (by omega)]; exact hu, hr⟩
  · have h0 : l = [] := List.eq_nil_of_length_eq_zero (by omega)
    subst h0
    rcases h1 with ⟨_, ⟨rfl, _⟩ | ⟨g, cap, cur, rfl, _⟩⟩
    · exact ⟨_, _, rfl, fun k x hx => by cases hx⟩
    · exact ⟨_, _, rfl, fun k x hx => by cases hx⟩
/-- An alternative of a list of them, as a later world has it. -/
theorem AltsR.at {w wr : World} {B : Nat} {p : Option Addr} {n cap : Nat} {P : List (List G.El)} (h : AltsR w B (.slice p n cap) P) (hb : Below w.heap.size w wr) {k : Nat} (hk : k < P.length) :
    ∃ g pu cu, p = some ⟨g, 0, none⟩ ∧ n = P.length ∧ g < w.heap.size ∧ wr.cell? ⟨g, k, none⟩ = some (.slice pu (P.getD k []).length cu) ∧ RowR wr B (.slice pu (P.getD k []).length cu) (P.getD k []) := by
  obtain ⟨p', cap', hv, hpf⟩ := alts_parts h
  cases hv
  have hd : P.getD k [] = P[k] := by rw [List.getD_eq_getElem?_getD, List.getElem?_eq_getElem hk]; rfl
  obtain ⟨g, u, rfl, hg, hc, hr⟩ := hpf k _ (List.getElem?_eq_getElem hk)
  obtain ⟨pu, cu, rfl, _⟩ := hr.parts
  rw [hd]
  exact ⟨g, pu, cu, rfl, rfl, hg, (World.cell?_of_block (hb.block g hg)).trans hc, hr.below hb⟩
theorem RowR.star {w wr : World} {B : Nat} {p : Option Addr} {n cap : Nat} {l : List G.El} (h : RowR w B (.slice p n cap) l) (hb : Below w.heap.size w wr) {i : Nat} {x : G.El} (hx : l[i]? = some x) :
    ∃ g, p = some ⟨g, 0, none⟩ ∧ wr.cell? ⟨g, i * 130, none⟩ = some (.bool x.star) := by
  obtain ⟨p', cap', hv, hpf⟩ := h.parts
  cases hv
  obtain ⟨g, rfl, hg, hc⟩ := hpf i x hx
  exact ⟨g, rfl, (World.cell?_of_block (hb.block g hg)).trans ((hc 0 (by omega)).trans (elLR_star x))⟩

set_option maxRecDepth 100000 in
set_option maxHeartbeats 2000000 in
theorem rstep_any {w : World} {B : Nat} {u : Value} {a : List G.El} (i c : Nat) (h : RowR w B u a) (hi : i ≤ a.length) (ha : a.length ≤ 1000) (hc : c < 128) :
    Calls Try.prog 52 #[u, .int .i64 i, .int .u8 c] w fun e w' => e = .returned (.tuple #[.int .i64 (G.stepK a i c).1, .bool (G.stepK a i c).2]) ∧ Below w.heap.size w w' := by
  obtain ⟨p, cap, rfl, hpf⟩ := h.parts
  obtain ⟨n, hn⟩ : ∃ n, a.length = n := ⟨_, rfl⟩
  rw [hn] at hi ha ⊢
  have hi0 : (0 : Int) ≤ (i : Int) := by omega
  have hc0 : (0 : Int) ≤ (c : Int) := by omega
  have hc1 : (c : Int) < 128 := by omega
  have iw : IntKind.i64.wrap ((i : Int) + 1) = (i : Int) + 1 := IntWalk.i64_in _ (by omega)
  by_cases hin : i < n
  · obtain ⟨x, hx⟩ : ∃ x, a[i]? = some x := ⟨_, List.getElem?_eq_getElem (by omega)⟩
    obtain ⟨ge, rfl, hge, hce⟩ := hpf i x hx
    have cs : w.cell? ⟨ge, i * 130, none⟩ = some (.bool x.star) := (hce 0 (by omega)).trans (elLR_star x)
    have ce : w.cell? ⟨ge, i * 130 + 2 + c, none⟩ = some (.bool (!x.star && x.set c)) := by
      rw [Nat.add_assoc]
      exact (hce (2 + c) (by omega)).trans (elLR_set x c hc)
    have hk : G.stepK a i c = if x.star then (i, true) else (i + 1, x.set c) := by unfold G.stepK; rw [hx]
    rw [hk]
    have b1 : ((i : Int) == (n : Int)) = false := beq_eq_false_iff_ne.2 (by omega)
    have i1 : (i : Int) < (n : Int) := by omega
    clear hk hce hpf hx h hn
    obtain ⟨s, hs⟩ : ∃ s, x.star = s := ⟨_, rfl⟩
    obtain ⟨t, ht⟩ : ∃ t, x.set c = t := ⟨_, rfl⟩
    rw [hs] at cs ce ⊢
    rw [ht] at ce ⊢
    clear hs ht
    cases s with
    | true =>
      go_enter Try.func52, Try.ntmps52
      go_wp2_with fail
      go_ret2
      exact ⟨rfl, Below.refl _ _⟩
    | false =>
      simp only [Bool.not_false, Bool.true_and] at ce
      simp only [Bool.false_eq_true, if_false]
      go_enter Try.func52, Try.ntmps52
      go_wp2_with fail
      go_quiet (fail)
      go_wp2_with fail
      go_ret2
      refine ⟨?_, below_drawN (Below.refl _ _) _⟩
      go_num
  · obtain rfl : i = n := by omega
    have b1 : ((i : Int) == (i : Int)) = true := beq_self_eq_true _
    have hk : G.stepK a i c = (0, false) := by unfold G.stepK; rw [List.getElem?_eq_none (by omega)]
    rw [hk]
    clear hk hpf h hn
    go_enter Try.func52, Try.ntmps52
    go_wp2_with fail
    go_ret2
    exact ⟨rfl, Below.refl _ _⟩

end Go.Proofs.Ytfihccfjboopiaa
