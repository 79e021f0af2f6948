/-
  THE MAPS OF tree.look IN MEMORY: the places of devices by their numbers; the origins.
  THE WALK of tree.look.
  THE WALK of a view's find.
-/
import Derived.Test.YtinjeijjfkkhbaaGreatDoorTreeFirst
import Derived.Maps.OwnSet
import Derived.Maps.OwnOps
import Derived.Maps.StringElems
import Derived.DeepKeys4
import Derived.StillTailTactics
namespace Go.Proofs.YtinjeijjfkkhbaaGreatDoor
open Go.RowKit Go.Maps

/-- The place of the last of the first k devices that has a number. -/
def lastIx (l : List Dev) : Nat → Int → Option Nat
  | 0, _ => none
  | k + 1, i => match l[k]? with
    | some d => if d.idx = i then some k else lastIx l k i
    | none => lastIx l k i
theorem lastIx_succ {l : List Dev} {k : Nat} {d : Dev} (h : l[k]? = some d) (i : Int) : lastIx l (k + 1) i = if d.idx = i then some k else lastIx l k i := by
  rw [lastIx, h]
theorem lastIx_lt : ∀ (l : List Dev) (k : Nat) (i : Int) (j : Nat), lastIx l k i = some j → j < k ∧ ∃ d, l[j]? = some d ∧ d.idx = i
  | l, 0, i, j, h => by cases h
  | l, k + 1, i, j, h => by
    rw [lastIx] at h
    split at h
    · rename_i d hd
      split at h
      · rename_i hi
        cases h
        exact ⟨by omega, d, hd, hi⟩
      · obtain ⟨h1, h2⟩ := lastIx_lt l k i j h
        exact ⟨by omega, h2⟩
    · obtain ⟨h1, h2⟩ := lastIx_lt l k i j h
      exact ⟨by omega, h2⟩
abbrev Wf (i : Int) : Prop := (Lit.int .i64 i).wf = true
theorem key_int {i : Int} (h : Wf i) : keyOf Tryz.prog 3 (.int .i64 i) = some (.int .i64 i) := keyOf_int_mk Tryz.underlying3 h
theorem lawI : Keyed Tryz.prog 3 := int_keyed Tryz.underlying3
theorem zeroI' (w : World) : (zeroValue 3).run Tryz.prog w = .ok (.int .i64 0) w := by kernel_rfl
theorem zeroS (w : World) : (zeroValue 9).run Tryz.prog w = .ok (.string ⟨#[]⟩) w := by kernel_rfl

def Places (w : World) (mb : Nat) (l : List Dev) (k : Nat) : Prop :=
  ∃ (n : Nat) (D : DataW Unit), w.ownsMap Tryz.prog 3 (plainElem Tryz.prog 3) mb n D ∧ n ≤ k ∧
    ∀ i, Wf i → Maps.has D (.int .i64 i) = (lastIx l k i).isSome ∧ ∀ j, lastIx l k i = some j → D.atKey (.int .i64 i) (.lit (.int .i64 0)) = .lit (.int .i64 (j : Nat))
theorem Places.heap {w w' : World} {mb : Nat} {l : List Dev} {k : Nat} (h : Places w mb l k) (hw : w'.heap[mb]? = w.heap[mb]?) : Places w' mb l k := by
  obtain ⟨n, D, ⟨es, c, hb, rest⟩, hr⟩ := h
  exact ⟨n, D, ⟨es, c, hw.trans hb, rest⟩, hr⟩
theorem Places.lt {w : World} {mb : Nat} {l : List Dev} {k : Nat} (h : Places w mb l k) : mb < w.heap.size := by
  obtain ⟨n, D, ⟨es, c, hb, rest⟩, hr⟩ := h
  exact (Array.getElem?_eq_some_iff.1 hb).1
theorem Places.start (w : World) (l : List Dev) : Places (w.alloc (.map #[] 0)) w.heap.size l 0 :=
  ⟨0, .map [], World.ownsMap_made _ _ _ _, Nat.le_refl _, fun i _ => ⟨rfl, fun j h => by cases h⟩⟩
theorem Places.look {w : World} {mb : Nat} {l : List Dev} {k : Nat} (h : Places w mb l k) {i : Int} (hi : Wf i) :
    ∃ c : Int, (Instr.lookup 67 (.map (some mb)) (.int .i64 i) true).run Tryz.prog w = .ok (.tuple #[.int .i64 c, .bool (lastIx l k i).isSome]) w ∧ ∀ j, lastIx l k i = some j → c = (j : Nat) := by
  obtain ⟨n, D, ho, _, hh⟩ := h
  obtain ⟨v, ps, hrun, hv⟩ := ho.look_ok lawI Tryz.underlying67 (zeroI' w) (plainElem_int Tryz.underlying3 (by decide)) (key_int hi)
  obtain ⟨c, rfl, hc, _⟩ := plainElem_int_inv Tryz.underlying3 hv
  obtain ⟨h1, h2⟩ := hh i hi
  rw [h1] at hrun
  refine ⟨c, hrun, fun j hj => ?_⟩
  have e := congrArg Prod.fst hc
  rw [h2 j hj] at e
  cases e
  rfl
theorem Places.put {w' : World} {mb n k : Nat} {l : List Dev} {D : DataW Unit} {d : Dev} (hd : l[k]? = some d) (hD : IsMap D) (hn : n ≤ k)
    (hh : ∀ i, Wf i → Maps.has D (.int .i64 i) = (lastIx l k i).isSome ∧ ∀ j, lastIx l k i = some j → D.atKey (.int .i64 i) (.lit (.int .i64 0)) = .lit (.int .i64 (j : Nat)))
    (ho : w'.ownsMap Tryz.prog 3 (plainElem Tryz.prog 3) mb (n + 1) (D.put (.int .i64 d.idx) (.lit (.int .i64 (k : Nat))))) : Places w' mb l (k + 1) := by
  have hkl : WideAt.IsKeyLit (.int .i64 d.idx) := trivial
  refine ⟨n + 1, _, ho, by omega, fun i hi => ?_⟩
  rw [lastIx_succ hd]
  by_cases e : d.idx = i
  · subst e
    rw [if_pos rfl, has_put_same hD hkl, atKey_put_same hD hkl]
    exact ⟨rfl, fun j hj => by cases hj; rfl⟩
  · have hne : (Lit.int .i64 i) ≠ .int .i64 d.idx := fun he => e (by cases he; rfl)
    rw [if_neg e, has_put_other hne, atKey_put_other hne]
    exact hh i hi

/-- Strings of at most N bytes by numbers. -/
def Origins (w : World) (mb : Nat) (k N : Nat) : Prop :=
  ∃ (n : Nat) (D : DataW Unit), w.ownsMap Tryz.prog 3 (plainElem Tryz.prog 9) mb n D ∧ n ≤ k ∧
    ∀ i, Wf i → ∃ s : List UInt8, D.atKey (.int .i64 i) (.lit (.string [])) = .lit (.string s) ∧ s.length ≤ N
theorem Origins.heap {w w' : World} {mb k N : Nat} (h : Origins w mb k N) (hw : w'.heap[mb]? = w.heap[mb]?) : Origins w' mb k N := by
  obtain ⟨n, D, ⟨es, c, hb, rest⟩, hr⟩ := h
  exact ⟨n, D, ⟨es, c, hw.trans hb, rest⟩, hr⟩
theorem Origins.lt {w : World} {mb k N : Nat} (h : Origins w mb k N) : mb < w.heap.size := by
  obtain ⟨n, D, ⟨es, c, hb, rest⟩, hr⟩ := h
  exact (Array.getElem?_eq_some_iff.1 hb).1
theorem Origins.start (w : World) : Origins (w.alloc (.map #[] 0)) w.heap.size 0 0 :=
  ⟨0, .map [], World.ownsMap_made _ _ _ _, Nat.le_refl _, fun _ _ => ⟨[], rfl, Nat.le_refl _⟩⟩
theorem Origins.look {w : World} {mb k N : Nat} (h : Origins w mb k N) {i : Int} (hi : Wf i) :
    ∃ s : ByteArray, (Instr.lookup 68 (.map (some mb)) (.int .i64 i) false).run Tryz.prog w = .ok (.string s) w ∧ s.size ≤ N := by
  obtain ⟨n, D, ho, _, hh⟩ := h
  obtain ⟨v, ps, hrun, hv⟩ := ho.lookup lawI Tryz.underlying68 (zeroS w) (plainElem_string Tryz.underlying9 (by decide)) (key_int hi)
  obtain ⟨s, rfl, hs, _⟩ := plainElem_string_inv Tryz.underlying9 hv
  obtain ⟨t, h1, h2⟩ := hh i hi
  refine ⟨s, hrun, ?_⟩
  have e : D.atKey (.int .i64 i) (.lit (.string [])) = .lit (.string s.data.toList) := congrArg Prod.fst hs
  rw [h1] at e
  injection e with e
  injection e with e
  show s.data.size ≤ N
  rw [← Array.length_toList, ← e]
  exact h2
theorem Origins.put {w' : World} {mb n k N M : Nat} {D : DataW Unit} {x : Int} {s : ByteArray} (hD : IsMap D) (hn : n ≤ k) (hs : s.size ≤ M) (hNM : N ≤ M)
    (hh : ∀ i, Wf i → ∃ s : List UInt8, D.atKey (.int .i64 i) (.lit (.string [])) = .lit (.string s) ∧ s.length ≤ N)
    (ho : w'.ownsMap Tryz.prog 3 (plainElem Tryz.prog 9) mb (n + 1) (D.put (.int .i64 x) (.lit (.string s.data.toList)))) : Origins w' mb (k + 1) M := by
  have hkl : WideAt.IsKeyLit (.int .i64 x) := trivial
  refine ⟨n + 1, _, ho, by omega, fun i hi => ?_⟩
  by_cases e : x = i
  · subst e
    rw [atKey_put_same hD hkl]
    exact ⟨_, rfl, hs⟩
  · have hne : (Lit.int .i64 i) ≠ .int .i64 x := fun he => e (by cases he; rfl)
    rw [atKey_put_other hne]
    obtain ⟨t, h1, h2⟩ := hh i hi
    exact ⟨t, h1, by omega⟩

end Go.Proofs.YtinjeijjfkkhbaaGreatDoor

namespace Go.Proofs.YtinjeijjfkkhbaaGreatDoor
open Go.RowKit Go.Maps

/-- Reads, then a tail that is forced. -/
theorem stillTail {P : Program} {id : Nat} {Q : Exit → Act → World → Prop} {a : Act} {w : World} {l : List Oper} (n : Nat) (hm : P.follows .mixedOrders = true) (hB : Region.lexTailB .any l.toArray n = true)
    (h : wpStill P l.toArray w.drew (fun a' => wpList P l.toArray Q (l.drop n) a' w.drew) (l.take n) a) : (Code.region id l.toArray true).wp P Q a w := wp_region_still_tail n hm hB h

/-- A view of a tree in memory: its devices and the two maps. -/
def viewV (p : Option Addr) (n c b1 b2 : Nat) : Value := .agg #[.slice p n c, .map (some b1), .map (some b2)]
theorem sizeView (a : Array Value) (h : a.size = 3) : (Tryz.prog.info? 70).map (·.size) = some a.size := by
  rw [h]; kernel_rfl

/-- The two stores of a round of tree.look, in either order. -/
structure LookEnd (w : World) (T B1 B2 BV : Nat) (l : List Dev) (k M : Nat) (p : Option Addr) (n c : Nat) (w8 : World) : Prop where
  only : Only (fun j => j = B1 ∨ j = B2) w w8
  tree : Blk w8 T 30 #[.slice p n c]
  res : Blk w8 (T + 1) 70 #[.slice none 0 0, .map none, .map none]
  view : Blk w8 BV 70 #[.slice p n c, .map (some B1), .map (some B2)]
  pl : Places w8 B1 l (k + 1)
  og : Origins w8 B2 (k + 1) M
theorem look_puts {og : ByteArray} {d : Dev} (wd : World) (T B1 B2 BV g : Nat) (l : List Dev) (k n c : Nat) (p : Option Addr) (cp : Array Value) (N M : Nat) (hd : l[k]? = some d) (hwf : Wf d.idx) (wfk : Wf (k : Int)) (hk : k ≤ 1000) (hcp0 : cp[0]? = some (.int .i64 d.idx)) (hg : BV < g)
    (hogm : og.size ≤ maxLen) (hogs : og.size ≤ M) (hNM : N ≤ M) (h01 : T + 1 < B1) (h12 : B1 < B2) (h2V : B2 < BV)
    (t1 : Blk wd T 30 #[.slice p n c]) (t2 : Blk wd (T + 1) 70 #[.slice none 0 0, .map none, .map none]) (t3 : Blk wd BV 70 #[.slice p n c, .map (some B1), .map (some B2)]) (t4 : Blk wd g 40 cp)
    (pp : Places wd B1 l k) (oo : Origins wd B2 k N) :
    ∃ w7 w8 u7 u8 : World,
      (Instr.mapUpdate 67 (.map (some B1)) (.int .i64 d.idx) (.int .i64 k)).run Tryz.prog wd = .ok () w7 ∧
      (Instr.mapUpdate 68 (.map (some B2)) (.int .i64 d.idx) (.string og)).run Tryz.prog w7 = .ok () w8 ∧
      (Instr.mapUpdate 68 (.map (some B2)) (.int .i64 d.idx) (.string og)).run Tryz.prog wd = .ok () u7 ∧
      (Instr.mapUpdate 67 (.map (some B1)) (.int .i64 d.idx) (.int .i64 k)).run Tryz.prog u7 = .ok () u8 ∧
      (w7.cell? ⟨g, 0, none⟩ = some (.int .i64 d.idx) ∧ w7.cell? ⟨BV, 1, none⟩ = some (.map (some B1)) ∧ w7.cell? ⟨BV, 2, none⟩ = some (.map (some B2))) ∧
      (u7.cell? ⟨g, 0, none⟩ = some (.int .i64 d.idx) ∧ u7.cell? ⟨BV, 1, none⟩ = some (.map (some B1)) ∧ u7.cell? ⟨BV, 2, none⟩ = some (.map (some B2))) ∧
      LookEnd wd T B1 B2 BV l k M p n c w8 ∧ LookEnd wd T B1 B2 BV l k M p n c u8 := by
  obtain ⟨n1, D1, po1, hn1, hh1⟩ := pp
  obtain ⟨n2, D2, po2, hn2, hh2⟩ := oo
  have hm1 : n1 < maxLen := by simp only [maxLen]; omega
  have hm2 : n2 < maxLen := by simp only [maxLen]; omega
  have c1 : ∀ w7, wd.grownBy w7 (some B1) → w7.ownsMap Tryz.prog 3 (plainElem Tryz.prog 9) B2 n2 D2 := fun w7 hg => by
    obtain ⟨es, cc, hb, rest⟩ := po2
    exact ⟨es, cc, (hg.block B2 (Array.getElem?_eq_some_iff.1 hb).1 (fun e => by have := Option.some.inj e; omega)).trans hb, rest⟩
  have c2 : ∀ w7, wd.grownBy w7 (some B2) → w7.ownsMap Tryz.prog 3 (plainElem Tryz.prog 3) B1 n1 D1 := fun w7 hg => by
    obtain ⟨es, cc, hb, rest⟩ := po1
    exact ⟨es, cc, (hg.block B1 (Array.getElem?_eq_some_iff.1 hb).1 (fun e => by have := Option.some.inj e; omega)).trans hb, rest⟩
  obtain ⟨w7, run7, own7, grow7⟩ := po1.update lawI Tryz.underlying67 hm1 (key_int hwf) (plainElem_int Tryz.underlying3 wfk)
  obtain ⟨w8, run8, own8, grow8⟩ := (c1 w7 grow7).update lawI Tryz.underlying68 hm2 (key_int hwf) (plainElem_string Tryz.underlying9 hogm)
  obtain ⟨u7, vun7, vwn7, vrow7⟩ := po2.update lawI Tryz.underlying68 hm2 (key_int hwf) (plainElem_string Tryz.underlying9 hogm)
  obtain ⟨u8, vun8, vwn8, vrow8⟩ := (c2 u7 vrow7).update lawI Tryz.underlying67 hm1 (key_int hwf) (plainElem_int Tryz.underlying3 wfk)
  have o7 : Only (fun j => j = B1 ∨ j = B2) wd w7 := (only_grown grow7).mono fun j hj => .inl (Option.some.inj hj).symm
  have o8 : Only (fun j => j = B1 ∨ j = B2) wd w8 := o7.trans ((only_grown grow8).mono fun j hj => .inr (Option.some.inj hj).symm)
  have v7 : Only (fun j => j = B1 ∨ j = B2) wd u7 := (only_grown vrow7).mono fun j hj => .inr (Option.some.inj hj).symm
  have v8 : Only (fun j => j = B1 ∨ j = B2) wd u8 := v7.trans ((only_grown vrow8).mono fun j hj => .inl (Option.some.inj hj).symm)
  have cells : ∀ W, Only (fun j => j = B1 ∨ j = B2) wd W → W.cell? ⟨g, 0, none⟩ = some (.int .i64 d.idx) ∧ W.cell? ⟨BV, 1, none⟩ = some (.map (some B1)) ∧ W.cell? ⟨BV, 2, none⟩ = some (.map (some B2)) := fun W ho => by
    have e1 := t4.only ho (fun e => by rcases e with e | e <;> omega)
    have e2 := t3.only ho (fun e => by rcases e with e | e <;> omega)
    exact ⟨(e1.cell 0).trans hcp0, (e2.cell 1).trans rfl, (e2.cell 2).trans rfl⟩
  have fin : ∀ W, Only (fun j => j = B1 ∨ j = B2) wd W → Places W B1 l (k + 1) → Origins W B2 (k + 1) M → LookEnd wd T B1 B2 BV l k M p n c W := fun W ho hp hq =>
    ⟨ho, t1.only ho (fun e => by rcases e with e | e <;> omega), t2.only ho (fun e => by rcases e with e | e <;> omega), t3.only ho (fun e => by rcases e with e | e <;> omega), hp, hq⟩
  have p7 : Places w7 B1 l (k + 1) := Places.put hd po1.isMap hn1 hh1 own7
  have q8 : Origins w8 B2 (k + 1) M := Origins.put po2.isMap hn2 hogs hNM hh2 own8
  have q7 : Origins u7 B2 (k + 1) M := Origins.put po2.isMap hn2 hogs hNM hh2 vwn7
  have p8 : Places u8 B1 l (k + 1) := Places.put hd po1.isMap hn1 hh1 vwn8
  exact ⟨w7, w8, u7, u8, run7, run8, vun7, vun8, cells w7 o7, cells u7 v7,
    fin w8 o8 (p7.heap (grow8.block B1 p7.lt (fun e => by have := Option.some.inj e; omega))) q8,
    fin u8 v8 p8 (q7.heap (vrow8.block B2 q7.lt (fun e => by have := Option.some.inj e; omega)))⟩

set_option maxRecDepth 100000 in
set_option maxHeartbeats 2000000 in
theorem look_any (l : List Dev) (p : Option Addr) (n c : Nat) (w : World) (hl : DevsAt w (.slice p n c) l) (hlen : l.length ≤ 1000) (hwf : ∀ d ∈ l, Wf d.idx ∧ Wf d.par) (hsz : ∀ d ∈ l, d.orig.size ≤ 1000000) :
    Calls Tryz.prog 28 #[.agg #[.slice p n c]] w fun e w' => (∃ b1 b2, e = .returned (viewV p n c b1 b2) ∧ Places w' b1 l l.length ∧ w.heap.size ≤ b1) ∧ Below w.heap.size w w' := by
  have hmm := @run_makeMap Tryz.prog
  have hl' := Lib.hid hl; clear hl
  have hwf' := Lib.hid hwf; clear hwf
  have hsz' := Lib.hid hsz; clear hsz
  go_enter Tryz.func28, Tryz.ntmps28
  go_wp2_with fail
  have hn : n = l.length ∧ (n = 0 ∨ ∃ g o, p = some ⟨g, o, none⟩ ∧ g < w.heap.size ∧ ∀ (k : Nat) (d : Dev), l[k]? = some d → ∀ (j : Nat) (u : Value), (devC d)[j]? = some u → w.cell? ⟨g, o + k * 10 + j, none⟩ = some u) := by
    rcases hl'.out.1.2 with ⟨h, h0⟩ | ⟨g, o, cap, h, hg, hc⟩
    · have : l = [] := List.map_eq_nil_iff.1 h0
      subst this
      injection h with _ h2 _
      exact ⟨h2, .inl h2⟩
    · rw [List.length_map] at h
      injection h with h1 h2 h3
      exact ⟨h2, .inr ⟨g, o, h1, hg, fun k d hd => hc k _ (by rw [List.getElem?_map, hd]; rfl)⟩⟩
  obtain ⟨hn, hcells⟩ := hn
  have hn' := Lib.hid hn
  have hn1000 : n ≤ 1000 := by omega
  have hcells' := Lib.hid hcells
  have hs1 : (w.alloc (.cells #[.slice p n c] 30)).heap.size = w.heap.size + 1 := by simp
  have a1 : Below w.heap.size w (w.alloc (.cells #[.slice p n c] 30)) := (Below.refl _ _).alloc (Nat.le_refl _) _
  have hB : Hid (Below w.heap.size w (((((w.alloc (.cells #[.slice p n c] 30)).alloc (.cells #[.slice none 0 0, .map none, .map none] 70)).alloc (.map #[] 0)).alloc (.map #[] 0)).alloc (.cells #[.slice p n c, .map (some (w.heap.size + 1 + 1)), .map (some (w.heap.size + 1 + 1 + 1))] 70))) := ((((a1.alloc a1.size _).alloc (a1.alloc a1.size _).size _).alloc ((a1.alloc a1.size _).alloc (a1.alloc a1.size _).size _).size _).alloc (((a1.alloc a1.size _).alloc (a1.alloc a1.size _).size _).alloc ((a1.alloc a1.size _).alloc (a1.alloc a1.size _).size _).size _).size _)
  have hT : Hid (Blk (((((w.alloc (.cells #[.slice p n c] 30)).alloc (.cells #[.slice none 0 0, .map none, .map none] 70)).alloc (.map #[] 0)).alloc (.map #[] 0)).alloc (.cells #[.slice p n c, .map (some (w.heap.size + 1 + 1)), .map (some (w.heap.size + 1 + 1 + 1))] 70)) w.heap.size 30 #[.slice p n c]) := ((((Blk.new _ _ _).alloc _).alloc _).alloc _).alloc _
  have hR : Hid (Blk (((((w.alloc (.cells #[.slice p n c] 30)).alloc (.cells #[.slice none 0 0, .map none, .map none] 70)).alloc (.map #[] 0)).alloc (.map #[] 0)).alloc (.cells #[.slice p n c, .map (some (w.heap.size + 1 + 1)), .map (some (w.heap.size + 1 + 1 + 1))] 70)) (w.heap.size + 1) 70 #[.slice none 0 0, .map none, .map none]) := (((Blk.new_ _ _ _ (by simp)).alloc _).alloc _).alloc _
  have hV : Hid (Blk (((((w.alloc (.cells #[.slice p n c] 30)).alloc (.cells #[.slice none 0 0, .map none, .map none] 70)).alloc (.map #[] 0)).alloc (.map #[] 0)).alloc (.cells #[.slice p n c, .map (some (w.heap.size + 1 + 1)), .map (some (w.heap.size + 1 + 1 + 1))] 70)) (w.heap.size + 1 + 1 + 1 + 1) 70 #[.slice p n c, .map (some (w.heap.size + 1 + 1)), .map (some (w.heap.size + 1 + 1 + 1))]) := Blk.new_ _ _ _ (by simp)
  have p0 := Places.start ((w.alloc (.cells #[.slice p n c] 30)).alloc (.cells #[.slice none 0 0, .map none, .map none] 70)) l
  have hP : Hid (Places (((((w.alloc (.cells #[.slice p n c] 30)).alloc (.cells #[.slice none 0 0, .map none, .map none] 70)).alloc (.map #[] 0)).alloc (.map #[] 0)).alloc (.cells #[.slice p n c, .map (some (w.heap.size + 1 + 1)), .map (some (w.heap.size + 1 + 1 + 1))] 70)) (w.heap.size + 1 + 1) l 0) := by
    have e : ((w.alloc (.cells #[.slice p n c] 30)).alloc (.cells #[.slice none 0 0, .map none, .map none] 70)).heap.size = w.heap.size + 1 + 1 := by simp
    rw [e] at p0
    exact (p0.heap (Below.heap_alloc _ _ _ p0.lt)).heap (Below.heap_alloc _ _ _ (p0.heap (Below.heap_alloc _ _ _ p0.lt)).lt)
  have o0 := Origins.start (((w.alloc (.cells #[.slice p n c] 30)).alloc (.cells #[.slice none 0 0, .map none, .map none] 70)).alloc (.map #[] 0))
  have hO : Hid (Origins (((((w.alloc (.cells #[.slice p n c] 30)).alloc (.cells #[.slice none 0 0, .map none, .map none] 70)).alloc (.map #[] 0)).alloc (.map #[] 0)).alloc (.cells #[.slice p n c, .map (some (w.heap.size + 1 + 1)), .map (some (w.heap.size + 1 + 1 + 1))] 70)) (w.heap.size + 1 + 1 + 1) 0 (0 * 1000001)) := by
    have e : (((w.alloc (.cells #[.slice p n c] 30)).alloc (.cells #[.slice none 0 0, .map none, .map none] 70)).alloc (.map #[] 0)).heap.size = w.heap.size + 1 + 1 + 1 := by simp
    rw [e] at o0
    rw [Nat.zero_mul]
    exact o0.heap (Below.heap_alloc _ _ _ o0.lt)
  clear hs1 a1 p0 o0 hn hcells hlen
  generalize (((((w.alloc (.cells #[.slice p n c] 30)).alloc (.cells #[.slice none 0 0, .map none, .map none] 70)).alloc (.map #[] 0)).alloc (.map #[] 0)).alloc (.cells #[.slice p n c, .map (some (w.heap.size + 1 + 1)), .map (some (w.heap.size + 1 + 1 + 1))] 70)) = w5 at *
  obtain ⟨B1, hB1⟩ : ∃ B1, w.heap.size + 1 + 1 = B1 := ⟨_, rfl⟩
  obtain ⟨B2, hB2⟩ : ∃ B2, w.heap.size + 1 + 1 + 1 = B2 := ⟨_, rfl⟩
  obtain ⟨BV, hBV⟩ : ∃ BV, w.heap.size + 1 + 1 + 1 + 1 = BV := ⟨_, rfl⟩
  rw [hBV] at hV ⊢
  rw [hB2] at hV hO ⊢
  rw [hB1] at hV hP ⊢
  have h12 : w.heap.size + 1 < B1 ∧ B1 < B2 ∧ B2 < BV := by omega
  clear hB1 hB2 hBV
  obtain ⟨h01, h12, h2V⟩ := h12
  go_loopw [15] (fun s15 wr => ∃ k : Nat, s15 = .int .i64 k ∧ k ≤ n ∧ BV < wr.heap.size ∧ Hid (Blk wr w.heap.size 30 #[.slice p n c]) ∧ Hid (Blk wr (w.heap.size + 1) 70 #[.slice none 0 0, .map none, .map none]) ∧ Hid (Blk wr BV 70 #[.slice p n c, .map (some B1), .map (some B2)]) ∧ Hid (Places wr B1 l k) ∧ Hid (Origins wr B2 k (k * 1000001)) ∧ Hid (Below w.heap.size w wr)) (fun s15 _ => n - (intOf s15).toNat)
  case atStart => exact ⟨0, rfl, by omega, hV.out.lt, hT, hR, hV, hP, hO, hB⟩
  case round =>
    clear hT hR hV hP hO hB
    obtain ⟨k, rfl, hk, hVlt, hT, hR, hV, hP, hO, hB⟩ := hrel
    have v0 := hV.out.cell 0
    have v1 := hV.out.cell 1
    have v2 := hV.out.cell 2
    simp only [List.getElem?_toArray, List.getElem?_cons_zero, List.getElem?_cons_succ] at v0 v1 v2
    by_cases hkn : k < n
    · obtain ⟨d, hd⟩ : ∃ d, l[k]? = some d := ⟨_, List.getElem?_eq_getElem (by have := hn'.out; omega)⟩
      have hmem := List.mem_of_getElem? hd
      obtain ⟨wf1, wf2⟩ := hwf'.out d hmem
      have hor := hsz'.out d hmem
      rcases hcells'.out with h0 | ⟨g, o, rfl, hg, hc⟩
      · omega
      have e : ∀ i, wr.cell? ⟨g, i, none⟩ = w.cell? ⟨g, i, none⟩ := fun i => World.cell?_of_block (hB.out.block g hg)
      have hcd := hc k d hd
      simp only [← e] at hcd
      have q0 : wr.cell? ⟨g, o + k * 10, none⟩ = some (.int .i64 d.idx) := hcd 0 _ rfl
      have q1 := hcd 1 _ rfl
      have q2 := hcd 2 _ rfl
      have q3 := hcd 3 _ rfl
      have q4 := hcd 4 _ rfl
      have q5 := hcd 5 _ rfl
      have q6 := hcd 6 _ rfl
      have q7 := hcd 7 _ rfl
      have q8 := hcd 8 _ rfl
      have q9 := hcd 9 _ rfl
      have ik : (k : Int) < (n : Int) := by omega
      have ik0 : (0 : Int) ≤ (k : Int) := by omega
      have hd' := Lib.hid hd; clear hd hmem hcd e hc
      obtain ⟨x0, x1, x2, x3, x4, x5, x6, x7, x8, xa, xn, xc, xt⟩ := d
      simp only [Dev.atv] at q0 q1 q2 q3 q4 q5 q6 q7 q8 q9 wf1 wf2 hor
      have hO2 : Origins (wr.alloc (.cells #[.int .i64 x0, .int .i64 x1, .string x2, .string x3, .string x4, .string x5, .string x6, .int .i64 x7, .int .i64 x8, .slice xa xn xc] 40)) B2 k (k * 1000001) := hO.out.heap (Below.heap_alloc _ _ _ hO.out.lt)
      obtain ⟨s, hlook, hss⟩ := hO2.look wf2
      have hP2 : Hid (Places (wr.alloc (.cells #[.int .i64 x0, .int .i64 x1, .string x2, .string x3, .string x4, .string x5, .string x6, .int .i64 x7, .int .i64 x8, .slice xa xn xc] 40)) B1 l k) := hP.out.heap (Below.heap_alloc _ _ _ hP.out.lt)
      have hT2 := Lib.hid (hT.out.alloc (.cells #[.int .i64 x0, .int .i64 x1, .string x2, .string x3, .string x4, .string x5, .string x6, .int .i64 x7, .int .i64 x8, .slice xa xn xc] 40))
      have hR2 := Lib.hid (hR.out.alloc (.cells #[.int .i64 x0, .int .i64 x1, .string x2, .string x3, .string x4, .string x5, .string x6, .int .i64 x7, .int .i64 x8, .slice xa xn xc] 40))
      have hV2 := Lib.hid (hV.out.alloc (.cells #[.int .i64 x0, .int .i64 x1, .string x2, .string x3, .string x4, .string x5, .string x6, .int .i64 x7, .int .i64 x8, .slice xa xn xc] 40))
      have hC2 : Hid (Blk (wr.alloc (.cells #[.int .i64 x0, .int .i64 x1, .string x2, .string x3, .string x4, .string x5, .string x6, .int .i64 x7, .int .i64 x8, .slice xa xn xc] 40)) wr.heap.size 40 #[.int .i64 x0, .int .i64 x1, .string x2, .string x3, .string x4, .string x5, .string x6, .int .i64 x7, .int .i64 x8, .slice xa xn xc]) := Blk.new _ _ _
      have hB2 := Lib.hid (hB.out.alloc hB.out.size (.cells #[.int .i64 x0, .int .i64 x1, .string x2, .string x3, .string x4, .string x5, .string x6, .int .i64 x7, .int .i64 x8, .slice xa xn xc] 40))
      have hO2' := Lib.hid hO2; clear hO2
      have wf1' := Lib.hid wf1; clear wf1
      have wf2' := Lib.hid wf2; clear wf2
      have hz47 : (⟨#[47]⟩ : ByteArray).size = 1 := rfl
      clear hT hR hV hP hO hB
      go_upto_region 6 with fail
      have hogs : (s ++ (⟨#[47]⟩ : ByteArray) ++ x3).size ≤ (k + 1) * 1000001 := by rw [ByteArray.size_append, ByteArray.size_append]; omega
      generalize hog : s ++ (⟨#[47]⟩ : ByteArray) ++ x3 = og at *
      clear hog hlook q0 q1 q2 q3 q4 q5 q6 q7 q8 q9 v0 v1 v2
      have hcpl : wr.heap.size < (wr.alloc (.cells #[.int .i64 x0, .int .i64 x1, .string x2, .string x3, .string x4, .string x5, .string x6, .int .i64 x7, .int .i64 x8, .slice xa xn xc] 40)).heap.size := hC2.out.lt
      generalize wr.alloc (.cells #[.int .i64 x0, .int .i64 x1, .string x2, .string x3, .string x4, .string x5, .string x6, .int .i64 x7, .int .i64 x8, .slice xa xn xc] 40) = w6 at *
      have r0 : w6.drew.cell? ⟨wr.heap.size, 0, none⟩ = some (.int .i64 x0) := (hC2.out.drew.cell 0).trans rfl
      have r1 : w6.drew.cell? ⟨BV, 1, none⟩ = some (.map (some B1)) := (hV2.out.drew.cell 1).trans rfl
      have r2 : w6.drew.cell? ⟨BV, 2, none⟩ = some (.map (some B2)) := (hV2.out.drew.cell 2).trans rfl
      have t1 := Lib.hid hT2.out.drew
      have t2 := Lib.hid hR2.out.drew
      have t3 := Lib.hid hV2.out.drew
      have t4 : Hid (Below w.heap.size w w6.drew) := Below.drew hB2.out
      have t5 : BV < w6.drew.heap.size := hV2.out.lt
      have pp : Places w6.drew B1 l k := hP2.out.heap rfl
      have oo : Origins w6.drew B2 k (k * 1000001) := hO2'.out.heap rfl
      have wfk : Wf (k : Int) := WalkArith.wf_i64 (by omega)
      have hmx : ∀ m : Nat, m ≤ k → m < maxLen := fun m hm => by simp only [maxLen]; omega
      have hogm : og.size ≤ maxLen := by simp only [maxLen]; omega
      have hC3 := Lib.hid hC2.out.drew
      obtain ⟨w7, w8, u7, u8, run7, run8, vun7, vun8, K7, L7, E8, F8⟩ := look_puts (og := og) w6.drew w.heap.size B1 B2 BV wr.heap.size l k n c _ #[.int .i64 x0, .int .i64 x1, .string x2, .string x3, .string x4, .string x5, .string x6, .int .i64 x7, .int .i64 x8, .slice xa xn xc] (k * 1000001) ((k + 1) * 1000001) hd'.out wf1'.out wfk (by omega) rfl hVlt hogm hogs (Nat.mul_le_mul_right _ (by omega)) h01 h12 h2V t1.out t2.out t3.out hC3.out pp oo
      obtain ⟨y0, y1, y2⟩ := K7
      obtain ⟨y3, y4, y5⟩ := L7
      have E8' := Lib.hid E8
      have F8' := Lib.hid F8
      have hbw : Hid (∀ W, Only (fun j => j = B1 ∨ j = B2) w6.drew W → Below w.heap.size w W) := fun W ho => t4.out.trans (ho.below (fun j e => by rcases e with e | e <;> omega) t4.out.size)
      clear hT2 hR2 hV2 hB2 hP2 hO2' hC2 hC3 pp oo E8 F8 t1 t2 t3 t4 t5
      go_region
      all_goals go_wp2_with fail
      all_goals go_roundw
      all_goals first
        | exact ⟨k + 1, by go_num, by omega, E8'.out.view.lt, E8'.out.tree, E8'.out.res, E8'.out.view, E8'.out.pl, E8'.out.og, hbw.out _ E8'.out.only⟩
        | exact ⟨k + 1, by go_num, by omega, F8'.out.view.lt, F8'.out.tree, F8'.out.res, F8'.out.view, F8'.out.pl, F8'.out.og, hbw.out _ F8'.out.only⟩
        | (simp [intOf]; omega)
    · obtain rfl : k = n := by omega
      have hR8 : Hid (Blk (wr.setRow (w.heap.size + 1) #[.slice p k c, .map (some B1), .map (some B2)]) (w.heap.size + 1) 70 #[.slice p k c, .map (some B1), .map (some B2)]) := hR.out.row _
      have hB8 : Hid (Below w.heap.size w (wr.setRow (w.heap.size + 1) #[.slice p k c, .map (some B1), .map (some B2)])) := below_row hB.out (Nat.le_succ _) _
      have hP8 : Hid (Places (wr.setRow (w.heap.size + 1) #[.slice p k c, .map (some B1), .map (some B2)]) B1 l l.length) := by
        have := hP.out
        rw [hn'.out] at this
        exact this.heap (setRow_other _ _ _ _ (by omega))
      have hone : (#[.slice p k c, .map (some B1), .map (some B2)] : Array Value).all (·.oneCell') = true := by simp [Value.oneCell']
      go_wp2_with (refine wpList_store_row rfl 70 (.tmp 2) (.tmp 40) rfl (w.heap.size + 1) #[.slice p k c, .map (some B1), .map (some B2)] rfl rfl 70 #[.slice none 0 0, .map none, .map none] hR.out (sizeView _ rfl) rfl hone ?_)
      exact bodyPost_ret (results_cell_row rfl _ _ (w.heap.size + 1) 70 _ (0, 0) _ rfl hR8.out Tryz.underlying70 rfl (sizeView _ rfl)) rfl ⟨⟨B1, B2, rfl, hP8.out, by omega⟩, hB8.out⟩

end Go.Proofs.YtinjeijjfkkhbaaGreatDoor

namespace Go.Proofs.YtinjeijjfkkhbaaGreatDoor
open Go.RowKit Go.Maps

/-- The last device with a number. -/
def lastD (l : List Dev) (i : Int) : Option Dev := (lastIx l l.length i).bind (l[·]?)
theorem lastD_some {l : List Dev} {i : Int} {j : Nat} (h : lastIx l l.length i = some j) : ∃ d, l[j]? = some d ∧ d.idx = i ∧ lastD l i = some d := by
  obtain ⟨_, d, h1, h2⟩ := lastIx_lt l _ i j h
  exact ⟨d, h1, h2, by unfold lastD; rw [h]; exact h1⟩
/-- What a view's find hands back. -/
def findV (l : List Dev) (i : Int) : Value := match lastD l i with
  | some d => .tuple #[devV d, .bool true]
  | none => .tuple #[zeroDev, .bool false]

set_option maxRecDepth 100000 in
set_option maxHeartbeats 2000000 in
theorem vfind_any (l : List Dev) (p : Option Addr) (n c b1 b2 : Nat) (i : Int) (w : World) (hl : DevsAt w (.slice p n c) l) (hP : Places w b1 l l.length) (hi : Wf i) :
    Calls Tryz.prog 57 #[viewV p n c b1 b2, .int .i64 i] w fun e w' => e = .returned (findV l i) ∧ Below w.heap.size w w' := by
  have hb1 : Below w.heap.size w (w.alloc (.cells #[.slice p n c, .map (some b1), .map (some b2)] 70)) := (Below.refl _ _).alloc (Nat.le_refl _) _
  have hbb : Below w.heap.size w ((w.alloc (.cells #[.slice p n c, .map (some b1), .map (some b2)] 70)).alloc (.cells #[.int .i64 0, .int .i64 0, .string ⟨#[]⟩, .string ⟨#[]⟩, .string ⟨#[]⟩, .string ⟨#[]⟩, .string ⟨#[]⟩, .int .i64 0, .int .i64 0, .slice none 0 0] 40)) := hb1.alloc hb1.size _
  have hX : Hid (Blk ((w.alloc (.cells #[.slice p n c, .map (some b1), .map (some b2)] 70)).alloc (.cells #[.int .i64 0, .int .i64 0, .string ⟨#[]⟩, .string ⟨#[]⟩, .string ⟨#[]⟩, .string ⟨#[]⟩, .string ⟨#[]⟩, .int .i64 0, .int .i64 0, .slice none 0 0] 40)) w.heap.size 70 #[.slice p n c, .map (some b1), .map (some b2)]) := (Blk.new _ _ _).alloc _
  have hY : Hid (Blk ((w.alloc (.cells #[.slice p n c, .map (some b1), .map (some b2)] 70)).alloc (.cells #[.int .i64 0, .int .i64 0, .string ⟨#[]⟩, .string ⟨#[]⟩, .string ⟨#[]⟩, .string ⟨#[]⟩, .string ⟨#[]⟩, .int .i64 0, .int .i64 0, .slice none 0 0] 40)) (w.heap.size + 1) 40 #[.int .i64 0, .int .i64 0, .string ⟨#[]⟩, .string ⟨#[]⟩, .string ⟨#[]⟩, .string ⟨#[]⟩, .string ⟨#[]⟩, .int .i64 0, .int .i64 0, .slice none 0 0]) := Blk.new_ _ _ _ (by simp)
  have hP2 : Places ((w.alloc (.cells #[.slice p n c, .map (some b1), .map (some b2)] 70)).alloc (.cells #[.int .i64 0, .int .i64 0, .string ⟨#[]⟩, .string ⟨#[]⟩, .string ⟨#[]⟩, .string ⟨#[]⟩, .string ⟨#[]⟩, .int .i64 0, .int .i64 0, .slice none 0 0] 40)) b1 l l.length := hP.heap (hbb.block b1 hP.lt)
  have hl2 := hl.below hbb
  obtain ⟨cv, hlook, hcv⟩ := hP2.look hi
  have hb' := Lib.hid hbb; clear hbb hb1 hl hP hP2
  have hone : (#[.int .i64 0, .int .i64 0, .string ⟨#[]⟩, .string ⟨#[]⟩, .string ⟨#[]⟩, .string ⟨#[]⟩, .string ⟨#[]⟩, .int .i64 0, .int .i64 0, .slice none 0 0] : Array Value).all (·.oneCell') = true := by simp [Value.oneCell']
  obtain ⟨R, hR⟩ : ∃ R, findV l i = R := ⟨_, rfl⟩
  rw [hR]
  unfold viewV
  cases hx : lastIx l l.length i with
  | none =>
    have hF : R = .tuple #[zeroDev, .bool false] := by
      rw [← hR]; unfold findV lastD; rw [hx]; rfl
    subst hF
    rw [hx] at hlook
    have hlook : (Instr.lookup 67 (.map (some b1)) (.int .i64 i) true).run Tryz.prog ((w.alloc (.cells #[.slice p n c, .map (some b1), .map (some b2)] 70)).alloc (.cells #[.int .i64 0, .int .i64 0, .string ⟨#[]⟩, .string ⟨#[]⟩, .string ⟨#[]⟩, .string ⟨#[]⟩, .string ⟨#[]⟩, .int .i64 0, .int .i64 0, .slice none 0 0] 40)) = .ok (.tuple #[.int .i64 cv, .bool false]) ((w.alloc (.cells #[.slice p n c, .map (some b1), .map (some b2)] 70)).alloc (.cells #[.int .i64 0, .int .i64 0, .string ⟨#[]⟩, .string ⟨#[]⟩, .string ⟨#[]⟩, .string ⟨#[]⟩, .string ⟨#[]⟩, .int .i64 0, .int .i64 0, .slice none 0 0] 40)) := hlook
    clear hcv hx hR
    go_enter Tryz.func57, Tryz.ntmps57
    go_upto_region 1 with fail
    generalize ((w.alloc (.cells #[.slice p n c, .map (some b1), .map (some b2)] 70)).alloc (.cells #[.int .i64 0, .int .i64 0, .string ⟨#[]⟩, .string ⟨#[]⟩, .string ⟨#[]⟩, .string ⟨#[]⟩, .string ⟨#[]⟩, .int .i64 0, .int .i64 0, .slice none 0 0] 40)) = w2 at *
    have x1 := hX.out.cell 1
    simp only [List.getElem?_toArray, List.getElem?_cons_zero, List.getElem?_cons_succ] at x1
    go_wp2_with (refine wpList_store_row rfl 40 (.tmp 4) (.tmp 17) rfl (w.heap.size + 1) #[.int .i64 0, .int .i64 0, .string ⟨#[]⟩, .string ⟨#[]⟩, .string ⟨#[]⟩, .string ⟨#[]⟩, .string ⟨#[]⟩, .int .i64 0, .int .i64 0, .slice none 0 0] rfl rfl 40 #[.int .i64 0, .int .i64 0, .string ⟨#[]⟩, .string ⟨#[]⟩, .string ⟨#[]⟩, .string ⟨#[]⟩, .string ⟨#[]⟩, .int .i64 0, .int .i64 0, .slice none 0 0] hY.out (sizeDev _ rfl) rfl hone ?_)
    exact bodyPost_ret (results_row_tmp rfl _ _ (w.heap.size + 1) 40 _ _ rfl (hY.out.row _) Tryz.underlying40 rfl (sizeDev _ rfl)) rfl ⟨rfl, below_row hb'.out (Nat.le_succ _) _⟩
  | some j =>
    obtain ⟨d, hd, hdi, hld⟩ := lastD_some hx
    have hF : R = .tuple #[devV d, .bool true] := by
      rw [← hR]; unfold findV; rw [hld]
    rw [hx] at hlook
    obtain rfl := hcv j hx
    have hlook : (Instr.lookup 67 (.map (some b1)) (.int .i64 i) true).run Tryz.prog ((w.alloc (.cells #[.slice p n c, .map (some b1), .map (some b2)] 70)).alloc (.cells #[.int .i64 0, .int .i64 0, .string ⟨#[]⟩, .string ⟨#[]⟩, .string ⟨#[]⟩, .string ⟨#[]⟩, .string ⟨#[]⟩, .int .i64 0, .int .i64 0, .slice none 0 0] 40)) = .ok (.tuple #[.int .i64 j, .bool true]) ((w.alloc (.cells #[.slice p n c, .map (some b1), .map (some b2)] 70)).alloc (.cells #[.int .i64 0, .int .i64 0, .string ⟨#[]⟩, .string ⟨#[]⟩, .string ⟨#[]⟩, .string ⟨#[]⟩, .string ⟨#[]⟩, .int .i64 0, .int .i64 0, .slice none 0 0] 40)) := hlook
    obtain ⟨⟨hlen, hs⟩, _⟩ := hl2
    rcases hs with ⟨_, h0⟩ | ⟨g, o, cap, hsl, hg, hcells⟩
    · have : l = [] := List.map_eq_nil_iff.1 h0
      subst this
      cases hd
    · rw [List.length_map] at hsl hlen
      injection hsl with e1 e2 e3
      subst e1 e2 e3
      have hjl : j < l.length := (List.getElem?_eq_some_iff.1 hd).1
      have hc := hcells j (devC d) (by rw [List.getElem?_map, hd]; rfl)
      generalize hN : l.length = N at *
      have q0 : ((w.alloc (.cells #[.slice (some ⟨g, o, none⟩) N c, .map (some b1), .map (some b2)] 70)).alloc (.cells #[.int .i64 0, .int .i64 0, .string ⟨#[]⟩, .string ⟨#[]⟩, .string ⟨#[]⟩, .string ⟨#[]⟩, .string ⟨#[]⟩, .int .i64 0, .int .i64 0, .slice none 0 0] 40)).cell? ⟨g, o + j * 10, none⟩ = some (.int .i64 d.idx) := hc 0 _ rfl
      have q1 := hc 1 _ rfl
      have q2 := hc 2 _ rfl
      have q3 := hc 3 _ rfl
      have q4 := hc 4 _ rfl
      have q5 := hc 5 _ rfl
      have q6 := hc 6 _ rfl
      have q7 := hc 7 _ rfl
      have q8 := hc 8 _ rfl
      have q9 := hc 9 _ rfl
      have ij : (j : Int) < (N : Int) := by omega
      have ij0 : (0 : Int) ≤ (j : Int) := by omega
      obtain ⟨x0, x1, x2, x3, x4, x5, x6, x7, x8, xa, xn, xc, xt⟩ := d
      simp only [Dev.atv] at q0 q1 q2 q3 q4 q5 q6 q7 q8 q9
      have hF' := Lib.hid hF
      clear hc hcells hcv hx hR hF hd hdi hld hN
      have hone2 : (#[.int .i64 x0, .int .i64 x1, .string x2, .string x3, .string x4, .string x5, .string x6, .int .i64 x7, .int .i64 x8, .slice xa xn xc] : Array Value).all (·.oneCell') = true := by simp [Value.oneCell']
      go_enter Tryz.func57, Tryz.ntmps57
      go_upto_region 1 with fail
      generalize ((w.alloc (.cells #[.slice (some ⟨g, o, none⟩) N c, .map (some b1), .map (some b2)] 70)).alloc (.cells #[.int .i64 0, .int .i64 0, .string ⟨#[]⟩, .string ⟨#[]⟩, .string ⟨#[]⟩, .string ⟨#[]⟩, .string ⟨#[]⟩, .int .i64 0, .int .i64 0, .slice none 0 0] 40)) = w2 at *
      have y0 := hX.out.cell 0
      have y1 := hX.out.cell 1
      simp only [List.getElem?_toArray, List.getElem?_cons_zero, List.getElem?_cons_succ] at y0 y1
      go_wp2_with (refine wpList_store_row rfl 40 (.tmp 4) (.tmp 22) rfl (w.heap.size + 1) #[.int .i64 x0, .int .i64 x1, .string x2, .string x3, .string x4, .string x5, .string x6, .int .i64 x7, .int .i64 x8, .slice xa xn xc] rfl rfl 40 #[.int .i64 0, .int .i64 0, .string ⟨#[]⟩, .string ⟨#[]⟩, .string ⟨#[]⟩, .string ⟨#[]⟩, .string ⟨#[]⟩, .int .i64 0, .int .i64 0, .slice none 0 0] hY.out (sizeDev _ rfl) rfl hone2 ?_)
      exact bodyPost_ret (results_row_tmp rfl _ _ (w.heap.size + 1) 40 _ _ rfl (hY.out.row _) Tryz.underlying40 rfl (sizeDev _ rfl)) rfl ⟨by rw [hF'.out]; rfl, below_row hb'.out (Nat.le_succ _) _⟩

end Go.Proofs.YtinjeijjfkkhbaaGreatDoor
