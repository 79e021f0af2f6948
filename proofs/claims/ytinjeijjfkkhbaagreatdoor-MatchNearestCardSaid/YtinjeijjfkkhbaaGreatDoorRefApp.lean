/-
  append OF A SLICE, WHICH MAY BE EMPTY, ONTO A ROW OF THE CALL's OWN, WHICH MAY BE NIL. No law of the program.
-/
import Derived.Test.YtinjeijjfkkhbaaGreatDoorGlobMem
import Derived.Deep.AppendLies
import Derived.Deep.Upon
namespace Go.Proofs.YtinjeijjfkkhbaaGreatDoor
open Go Go.RowKit

section
variable {P : Program}
theorem wp_append_all {o : Oper} {a : Act} {w : World} {K : Act → World → Prop} {Q : Exit → Act → World → Prop} (s x : Operand) (t : TypeId)
    (ho : o.op = .call { callee := .builtin .append, args := #[s, x], argTypes := #[t, t] })
    (base : Nat) (e : TypeId) (i : TypeInfo) (z : Value) (size bytes : Nat) (ht : P.underlying t = some (.slice e)) (hi : P.info? e = some i) (hz : i.zero = some z)
    (hsize : i.size = size) (hby : i.bytes = bytes) (hzs : z.cells.size = size) (hsz : 0 < size)
    (p : Option Addr) (n cp : Nat) (xs : List Value) (hs : a.eval s = .slice p n cp) (hown : w.ownsRow base e size (.slice p n cp) n xs)
    (ad : Option Addr) (m c : Nat) (news : List Value) (hx : a.eval x = .slice ad m c) (hl : news.length = m * size) (hnews : ∀ b, ad = some b → ∀ j u, news[j]? = some u → w.cell? (b.add j) = some u) (had : 0 < m → ad ≠ none) (h1 : ∀ u ∈ news, u.oneCell' = true)
    (h63 : n + m ≤ maxLen) (hbytes : (n + m) * bytes ≤ 140737488355328) (hbase : base ≤ w.heap.size)
    (h : ∀ p' cp' w', w'.ownsRow base e size (.slice p' (n + m) cp') (n + m) (xs ++ news) → Only (fun k => (Value.slice p n cp).ownBlock = some k) w w' → K (a.put o.dst (.slice p' (n + m) cp')) w') : o.wp P a w K Q := by
  rcases Nat.eq_zero_or_pos m with rfl | hm
  · have hn0 : news = [] := List.eq_nil_of_length_eq_zero (by rw [hl, Nat.zero_mul])
    subst hn0
    have hle : n ≤ cp := by
      rcases hown.2 with ⟨h, h0⟩ | ⟨g, cap, cur, h, _, _, h1, _⟩
      · omega
      · cases h; exact h1
    have hsrc : Src P i.size t (.slice ad 0 c) 0 [] w := by
      cases ad with
      | none => exact Src.ofNil (w := w) ht c
      | some b => exact Src.ofSlice (w := w) ht b 0 c [] (by simp) (fun j u hj => by simp at hj) (fun u hu => by cases hu)
    have hr := run_append_nothing (P := P) w t t o.type e i ht hi p n cp hle (.slice ad 0 c) hsrc
    have := h p cp w (by simpa using hown) (Only.refl _ _)
    unfold Oper.wp execOp
    simp only [ho, resolve, invoke, builtin, Sem.run_bind, Sem.run_pure, Result.andThen_ok, List.map_toArray, List.map_cons, List.map_nil, hs, hx, hr]
    exact this
  · cases ad with
    | none => exact absurd rfl (had hm)
    | some b =>
      exact wp_append_lies w s x t ho base e i z size bytes ht hi hz hsize hby hzs hsz _ n xs hs hown b m c news hx hl (hnews b rfl) h1 hm h63 hbytes hbase _ rfl fun g cap w' h2 h3 _ _ => h _ _ w' h2 ⟨h3.os, h3.tape, h3.output, h3.size, fun k hk hn => h3.block k hk fun e => hn e.symm⟩
/-- At a step of a region that draws. -/
theorem step_append_all {ops : Array Oper} {o : Oper} {a : Act} {w : World} {K : Act → World → Prop} {Q : Exit → Act → World → Prop} {E : Prop} (hgd : o.guard = none) (s x : Operand) (t : TypeId)
    (ho : o.op = .call { callee := .builtin .append, args := #[s, x], argTypes := #[t, t] })
    (base : Nat) (e : TypeId) (i : TypeInfo) (z : Value) (size bytes : Nat) (ht : P.underlying t = some (.slice e)) (hi : P.info? e = some i) (hz : i.zero = some z)
    (hsize : i.size = size) (hby : i.bytes = bytes) (hzs : z.cells.size = size) (hsz : 0 < size)
    (p : Option Addr) (n cp : Nat) (xs : List Value) (hs : a.eval s = .slice p n cp) (hown : w.ownsRow base e size (.slice p n cp) n xs)
    (ad : Option Addr) (m c : Nat) (news : List Value) (hx : a.eval x = .slice ad m c) (hl : news.length = m * size) (hnews : ∀ b, ad = some b → ∀ j u, news[j]? = some u → w.cell? (b.add j) = some u) (had : 0 < m → ad ≠ none) (h1 : ∀ u ∈ news, u.oneCell' = true)
    (h63 : n + m ≤ maxLen) (hbytes : (n + m) * bytes ≤ 140737488355328) (hbase : base ≤ w.heap.size)
    (h : ∀ p' cp' w', w'.ownsRow base e size (.slice p' (n + m) cp') (n + m) (xs ++ news) → Only (fun k => (Value.slice p n cp).ownBlock = some k) w w' → K (a.put o.dst (.slice p' (n + m) cp')) w') :
    if Region.wanted o (yielded ops a.tmps) = true then Oper.wp P o a w K Q else E := by
  have hw : Region.wanted o (yielded ops a.tmps) = true := by simp [Region.wanted, hgd]
  rw [if_pos hw]
  exact wp_append_all s x t ho base e i z size bytes ht hi hz hsize hby hzs hsz p n cp xs hs hown ad m c news hx hl hnews had h1 h63 hbytes hbase h
end

end Go.Proofs.YtinjeijjfkkhbaaGreatDoor
