/-
  THE WALK of helper.Call.
-/
import Derived.Test.YtgjnohkcnfdmkaaDoorHelpCall
import Derived.Defers
namespace Go.Proofs.YtgjnohkcnfdmkaaDoor
open Go.RowKit

/-- What a call of a table answers. -/
def callS (l : List Hp) (limit calls : Int) (c : ByteArray) : ByteArray × Int × Int :=
  if 16 ≤ calls then (⟨#[]⟩, 0, 144) else match l.find? (hits c) with
  | none => (⟨#[]⟩, 0, 143)
  | some h => if limit < h.ticks then (⟨#[]⟩, limit, 142) else if h.fails then (⟨#[]⟩, h.ticks, 141) else (h.out, h.ticks, 0)

theorem clear_ok (pe po : Addr) (u : FrameMode) (w : World) (hc : w.cell? pe = some (.int .i64 0)) :
    CallsD Tryd.prog 24 #[.pointer (some pe), .pointer (some po)] u w fun e u' w' => u' = u ∧ (e = .returned (.tuple #[]) ∧ w' = w) := by
  go_enter_d Tryd.func24, Tryd.ntmps24
  go_wp2_with fail
  go_end0
  exact ⟨rfl, rfl⟩
theorem clear_err (pe po : Addr) (n : Int) (hn : n ≠ 0) (s : ByteArray) (u : FrameMode) (w : World) (hc : w.cell? pe = some (.int .i64 n)) (ho : w.cell? po = some (.string s)) (hz : w.frozen? po = false) :
    CallsD Tryd.prog 24 #[.pointer (some pe), .pointer (some po)] u w fun e u' w' => u' = u ∧ (e = .returned (.tuple #[]) ∧ w' = w.setCell po (.string ⟨#[]⟩)) := by
  go_enter_d Tryd.func24, Tryd.ntmps24
  go_wp2_with fail
  go_end0
  exact ⟨rfl, rfl⟩

theorem find_idx_none {l : List Hp} {c : ByteArray} (h : l.find? (hits c) = none) : idxS l c = -1 := by
  refine idx_none fun x hx => ?_
  have := List.find?_eq_none.1 h x hx
  simpa using this
theorem find_idx_some {l : List Hp} {c : ByteArray} {h : Hp} (hf : l.find? (hits c) = some h) : ∃ k : Nat, idxS l c = k ∧ l[k]? = some h := by
  rw [List.find?_eq_some_iff_getElem] at hf
  obtain ⟨hh, k, hk, he, hb⟩ := hf
  refine ⟨k, idx_some (he ▸ List.getElem?_eq_getElem hk) (fun j x hj hx => ?_) hh, he ▸ List.getElem?_eq_getElem hk⟩
  have hlt : j < l.length := by omega
  have := hb j hj
  rw [List.getElem?_eq_getElem hlt] at hx
  cases hx
  simpa using this

set_option maxHeartbeats 1000000 in
theorem call_many (v : Value) (limit calls : Int) (c : ByteArray) (w : World) (h16 : 16 ≤ calls) :
    Calls Tryd.prog 13 #[v, .int .i64 limit, .int .i64 calls, .string c] w fun e w' => e = .returned (.tuple #[.string ⟨#[]⟩, .int .i64 0, .int .i64 144]) ∧ Below w.heap.size w w' := by
  have hmf : ∀ (fn : Fn) (first cap : Array Value) (w : World), (Instr.makeFunc fn first cap).run Tryd.prog w = .ok (.func fn first cap) w := fun _ _ _ _ => rfl
  go_enter_defers Tryd.func13, Tryd.ntmps13
  go_wp2_with fail
  refine leaves_cons (f := 24) (args := #[.pointer (some ⟨w.heap.size + 2, 0, none⟩), .pointer (some ⟨w.heap.size + 1, 0, none⟩)]) (by simp) (by simp [go_sem]) ?_
  refine (clear_err ⟨w.heap.size + 2, 0, none⟩ ⟨w.heap.size + 1, 0, none⟩ 144 (by decide) ⟨#[]⟩ .returning _ (by simp [go_sem]) (by simp [go_sem]) (by simp [go_sem])).mono ?_
  rintro e u' w'' ⟨rfl, rfl, rfl⟩
  simp [Leaves, settle, results, Tryd.results13, go_sem]
  exact (((Below.refl _ _).alloc (Nat.le_refl _) _).alloc (by simp) _).alloc (by simp; omega) _

/-- The three variables behind the search. -/
theorem behind {c : ByteArray} {w v1 : World} (hb1 : Below (((w.alloc (.cells #[.string c] 9)).alloc (.cells #[.string ⟨#[]⟩] 9)).alloc (.cells #[.int .i64 0] 33)).heap.size (((w.alloc (.cells #[.string c] 9)).alloc (.cells #[.string ⟨#[]⟩] 9)).alloc (.cells #[.int .i64 0] 33)) v1) :
    Below w.heap.size w v1 ∧ Blk v1 (w.heap.size + 1) 9 #[.string ⟨#[]⟩] ∧ Blk v1 (w.heap.size + 2) 33 #[.int .i64 0] := by
  refine ⟨((((Below.refl _ _).alloc (Nat.le_refl _) _).alloc (by simp) _).alloc (by simp; omega) _).trans (hb1.mono (by simp; omega)), ?_, ?_⟩
  · exact ((Blk.new_ (w.alloc (.cells #[.string c] 9)) _ _ (by simp)).alloc _).below hb1 (by simp)
  · exact (Blk.new_ ((w.alloc (.cells #[.string c] 9)).alloc (.cells #[.string ⟨#[]⟩] 9)) _ _ (by simp)).below hb1 (by simp)
theorem helpers3 {v : Value} {l : List Hp} {w : World} (a b c : Obj) (h : HelpersAt w v l) : HelpersAt (((w.alloc a).alloc b).alloc c) v l :=
  h.below ((((Below.refl _ _).alloc (Nat.le_refl _) _).alloc (by simp) _).alloc (by simp; omega) _)

theorem cs_same {w : World} {p : Addr} {x : Value} (h : ∃ o, w.cell? p = some o) : (w.setCell p x).cell? p = some x := by
  obtain ⟨o, h⟩ := h
  exact World.cell?_setCell_same _ _ _ h
theorem cs_other {w : World} {p q : Addr} {x v : Value} (hne : q ≠ p) (h : w.cell? p = some v) : (w.setCell q x).cell? p = some v := (World.cell?_setCell_other _ _ _ _ hne).trans h
theorem cs_drew {w : World} {p : Addr} {v : Value} (h : w.cell? p = some v) : w.drew.cell? p = some v := h
theorem ex_set {w : World} {p q : Addr} {x : Value} (h : ∃ o, w.cell? p = some o) : ∃ o, (w.setCell q x).cell? p = some o := by
  obtain ⟨o, h⟩ := h
  by_cases e : q = p
  · subst e
    exact ⟨x, World.cell?_setCell_same _ _ _ h⟩
  · exact ⟨o, (World.cell?_setCell_other _ _ _ _ e).trans h⟩
theorem ex_drew {w : World} {p : Addr} (h : ∃ o, w.cell? p = some o) : ∃ o, w.drew.cell? p = some o := h

theorem cells_err {v1 : World} {a b : Nat} (hab : a ≠ b) {x y : Value} (c8 : v1.cell? ⟨a, 0, none⟩ = some x) (c10 : v1.cell? ⟨b, 0, none⟩ = some y) (s n z : Value) :
    let X := (((v1.setCell ⟨a, 0, none⟩ s).setCell ⟨b, 0, none⟩ n).setCell ⟨a, 0, none⟩ s).setCell ⟨b, 0, none⟩ n
    X.cell? ⟨b, 0, none⟩ = some n ∧ X.cell? ⟨a, 0, none⟩ = some s ∧ (X.setCell ⟨a, 0, none⟩ z).cell? ⟨a, 0, none⟩ = some z ∧ (X.setCell ⟨a, 0, none⟩ z).cell? ⟨b, 0, none⟩ = some n := by
  intro X
  refine ⟨?_, ?_, ?_, ?_⟩
  all_goals (repeat' (first | (with_reducible exact c8) | (with_reducible exact c10) | (with_reducible exact ⟨_, c8⟩) | (with_reducible exact ⟨_, c10⟩) | (with_reducible refine cs_same ?_) | (with_reducible refine ex_set ?_) | (with_reducible refine cs_other (fun e => absurd (congrArg Addr.block e) hab) ?_) | (with_reducible refine cs_other (fun e => absurd (congrArg Addr.block e).symm hab) ?_)))

set_option maxHeartbeats 1000000 in
theorem call_none (l : List Hp) (v : Value) (limit calls : Int) (c : ByteArray) (w : World) (h16 : ¬ 16 ≤ calls) (hl : HelpersAt w v l) (h1 : ∀ h ∈ l, h.cmd.size ≤ 1000000000000) (h2 : c.size ≤ 1000000000000) (hf : l.find? (hits c) = none) :
    Calls Tryd.prog 13 #[v, .int .i64 limit, .int .i64 calls, .string c] w fun e w' => e = .returned (.tuple #[.string ⟨#[]⟩, .int .i64 0, .int .i64 143]) ∧ Below w.heap.size w w' := by
  have hmf : ∀ (fn : Fn) (first cap : Array Value) (w : World), (Instr.makeFunc fn first cap).run Tryd.prog w = .ok (.func fn first cap) w := fun _ _ _ _ => rfl
  have hI := fun cb W hW hc => index_any l v c cb W hW hc h1 h2
  rw [find_idx_none hf] at hI
  have hI' := Lib.hid hI; clear hI
  have hl' := Lib.hid hl; clear hl
  go_enter_defers Tryd.func13, Tryd.ntmps13
  go_wp2_with fail
  refine (hI'.out w.heap.size _ (helpers3 _ _ _ hl'.out) (by simp [go_sem])).mono ?_
  rintro e v1 ⟨rfl, hb1⟩
  obtain ⟨k1, B8, B10⟩ := behind hb1
  have c8 := B8.cell 0
  have f8 := B8.frozen 0
  have c10 := B10.cell 0
  have f10 := B10.frozen 0
  simp only [List.getElem?_toArray, List.getElem?_cons_zero] at c8 c10
  have k1' := Lib.hid k1; clear k1 hb1 B8 B10
  go_wp2_with fail
  refine leaves_cons (f := 24) (args := #[.pointer (some ⟨w.heap.size + 2, 0, none⟩), .pointer (some ⟨w.heap.size + 1, 0, none⟩)]) (by simp) (by simp [go_sem]) ?_
  refine (clear_err ⟨w.heap.size + 2, 0, none⟩ ⟨w.heap.size + 1, 0, none⟩ 143 (by decide) ⟨#[]⟩ .returning _ (by simp [go_sem, c10]) (by simp [go_sem, c8]) (by simp [go_sem, f8])).mono ?_
  rintro e u' w'' ⟨rfl, rfl, rfl⟩
  simp [Leaves, settle, results, Tryd.results13, go_sem, c8, c10]
  exact ((k1'.out.setCell (by simp) _).setCell (by simp; omega) _).setCell (by simp) _

end Go.Proofs.YtgjnohkcnfdmkaaDoor
