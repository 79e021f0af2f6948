/-
  match.Device, whole.
-/
import Derived.Test.YtinjeijjfkkhbaaGreatDoorMatchDev
namespace Go.Proofs.YtinjeijjfkkhbaaGreatDoor
open Go.RowKit
attribute [local go_sem] neq_func neq_nil

/-- The value that a term looks at. -/
def valK (k : Int) (n : ByteArray) (d : Dev) : ByteArray :=
  if k = 2 ∨ k = 8 then d.orig else if k = 3 ∨ k = 9 then d.sub else if k = 4 ∨ k = 10 then d.drv else (getS d.att n).1
def devS (k : Int) (n : ByteArray) (o : Int) (v : ByteArray) (d : Dev) : Bool := (stS k o || upS' k o) && holdsS o v (valK k n d)
theorem keys8 {k o : Int} (h : (stS k o || upS' k o) = true) : isMatch o = true ∧ (k = 2 ∨ k = 3 ∨ k = 4 ∨ k = 5 ∨ k = 8 ∨ k = 9 ∨ k = 10 ∨ k = 11) := by
  unfold stS upS' at h
  have h1 : isMatch o = true ∧ 0 ≤ k ∧ (stK k.toNat = true ∨ upK k.toNat = true) := by
    simp only [Bool.or_eq_true, Bool.and_eq_true, decide_eq_true_eq] at h
    rcases h with ⟨⟨a, b⟩, c⟩ | ⟨⟨a, b⟩, c⟩
    · exact ⟨a, b, .inl c⟩
    · exact ⟨a, b, .inr c⟩
  obtain ⟨h1, h2, h3⟩ := h1
  refine ⟨h1, ?_⟩
  have h4 : k.toNat = 2 ∨ k.toNat = 3 ∨ k.toNat = 4 ∨ k.toNat = 5 ∨ k.toNat = 8 ∨ k.toNat = 9 ∨ k.toNat = 10 ∨ k.toNat = 11 := by
    generalize k.toNat = m at h3
    rcases h3 with h | h
    · unfold stK at h
      split at h <;> first | omega | (simp at h)
    · unfold upK at h
      split at h <;> first | omega | (simp at h)
  omega
/-- None of the values that terms look at is longer than 10^12 bytes. -/
def DevFit (d : Dev) : Prop := d.orig.size ≤ 9223372036854775807 ∧ d.sub.size ≤ 9223372036854775807 ∧ d.drv.size ≤ 9223372036854775807 ∧ ∀ x ∈ d.att, x.2.size ≤ 9223372036854775807
theorem getS_size {l : List Att} {n : ByteArray} {N : Nat} (h : ∀ x ∈ l, x.2.size ≤ N) : (getS l n).1.size ≤ N := by
  unfold getS
  cases hf : l.find? (fun x => decide (x.1 = n)) with
  | none => exact Nat.zero_le _
  | some x => exact h x (List.mem_of_find?_eq_some hf)
theorem valK_size {d : Dev} (h : DevFit d) (k : Int) (n : ByteArray) : (valK k n d).size ≤ 9223372036854775807 := by
  unfold valK
  split
  · exact h.1
  · split
    · exact h.2.1
    · split
      · exact h.2.2.1
      · exact getS_size h.2.2.2

set_option maxRecDepth 100000 in
set_option maxHeartbeats 1000000 in
theorem device_nil (k : Int) (n : ByteArray) (o : Int) (v : ByteArray) (d : Dev) (w : World) (h : (stS k o || upS' k o) = false) :
    Calls Tryz.prog 14 #[termV k n o v, devV d] w fun e w' => e = .returned (.bool false) ∧ Below w.heap.size w w' := by
  have hO := fun W => of_any k n o v W
  obtain ⟨fv, hfv, hnil, _⟩ := ofA_parts k o
  obtain rfl := hnil h
  rw [hfv] at hO
  have hO' := Lib.hid hO; clear hO hfv hnil h
  generalize stS k o = st at *
  generalize upS' k o = up at *
  unfold termV devV at *
  have hb : Hid (Below w.heap.size w ((w.alloc (.cells #[.int .i64 k, .string n, .int .i64 o, .string v] 46)).alloc (.cells #[.int .i64 d.idx, .int .i64 d.par, .string d.name, .string d.orig, .string d.sub, .string d.drv, .string d.ali, .int .i64 d.kind, .int .i64 d.num, .slice d.aa d.an d.ac] 40))) := ((Below.refl _ _).alloc (Nat.le_refl _) _).alloc (by simp) _
  go_enter Tryz.func14, Tryz.ntmps14
  go_wp2_with fail
  refine (hO'.out _).mono ?_
  rintro e v1 ⟨rfl, hb1⟩
  have hb2 : Hid (Below w.heap.size w (v1.alloc (.cells #[.bool st, .bool up, .nilFunc] 76))) := (hb.out.trans (hb1.mono hb.out.size)).alloc (hb.out.trans (hb1.mono hb.out.size)).size _
  have hZ3 : Hid (Blk (v1.alloc (.cells #[.bool st, .bool up, .nilFunc] 76)) v1.heap.size 76 #[.bool st, .bool up, .nilFunc]) := Blk.new _ _ _
  clear hb1
  go_upto_region 2 with fail
  generalize v1.alloc (.cells #[.bool st, .bool up, .nilFunc] 76) = w3 at *
  have c2 := hZ3.out.cell 2
  simp only [List.getElem?_toArray, List.getElem?_cons_zero, List.getElem?_cons_succ] at c2
  go_quiet (fail)
  go_wp2_with fail
  go_ret
  exact ⟨rfl, below_drawN hb2.out _⟩

theorem device_any (k : Int) (n : ByteArray) (o : Int) (v : ByteArray) (d : Dev) (w : World) (hd : DevAt w d) (hf : DevFit d) (hv : v.size ≤ 9223372036854775807) :
    Calls Tryz.prog 14 #[termV k n o v, devV d] w fun e w' => e = .returned (.bool (devS k n o v d)) ∧ Below w.heap.size w w' := by
  unfold devS
  cases h : (stS k o || upS' k o) with
  | false => exact device_nil k n o v d w h
  | true =>
    rw [Bool.true_and]
    obtain ⟨hm, hk⟩ := keys8 h
    have hh := fun W => holds_any k n o v (valK k n d) W hv (valK_size hf k n)
    rcases hk with rfl | rfl | rfl | rfl | rfl | rfl | rfl | rfl
    · exact dev_core 72 (.inl rfl) true false _ n o v d _ _ w (fun W => by have := of_any 2 n o v W; rwa [show ofA 2 o = #[.bool true, .bool false, .func (.func 72) #[] #[]] from by unfold ofA; rw [if_pos ⟨hm, by omega, by omega⟩]; rfl] at this) (fun W _ => look1_any 2 n o v d W) hh
    · exact dev_core 73 (.inr (.inl rfl)) true false _ n o v d _ _ w (fun W => by have := of_any 3 n o v W; rwa [show ofA 3 o = #[.bool true, .bool false, .func (.func 73) #[] #[]] from by unfold ofA; rw [if_pos ⟨hm, by omega, by omega⟩]; rfl] at this) (fun W _ => look2_any 3 n o v d W) hh
    · exact dev_core 74 (.inr (.inr (.inl rfl))) true false _ n o v d _ _ w (fun W => by have := of_any 4 n o v W; rwa [show ofA 4 o = #[.bool true, .bool false, .func (.func 74) #[] #[]] from by unfold ofA; rw [if_pos ⟨hm, by omega, by omega⟩]; rfl] at this) (fun W _ => look3_any 4 n o v d W) hh
    · exact dev_core 75 (.inr (.inr (.inr rfl))) true false _ n o v d _ _ w (fun W => by have := of_any 5 n o v W; rwa [show ofA 5 o = #[.bool true, .bool false, .func (.func 75) #[] #[]] from by unfold ofA; rw [if_pos ⟨hm, by omega, by omega⟩]; rfl] at this) (fun W hb => look4_any 5 n o v d W (hd.below hb)) hh
    · exact dev_core 72 (.inl rfl) false true _ n o v d _ _ w (fun W => by have := of_any 8 n o v W; rwa [show ofA 8 o = #[.bool false, .bool true, .func (.func 72) #[] #[]] from by unfold ofA; rw [if_pos ⟨hm, by omega, by omega⟩]; rfl] at this) (fun W _ => look1_any 8 n o v d W) hh
    · exact dev_core 73 (.inr (.inl rfl)) false true _ n o v d _ _ w (fun W => by have := of_any 9 n o v W; rwa [show ofA 9 o = #[.bool false, .bool true, .func (.func 73) #[] #[]] from by unfold ofA; rw [if_pos ⟨hm, by omega, by omega⟩]; rfl] at this) (fun W _ => look2_any 9 n o v d W) hh
    · exact dev_core 74 (.inr (.inr (.inl rfl))) false true _ n o v d _ _ w (fun W => by have := of_any 10 n o v W; rwa [show ofA 10 o = #[.bool false, .bool true, .func (.func 74) #[] #[]] from by unfold ofA; rw [if_pos ⟨hm, by omega, by omega⟩]; rfl] at this) (fun W _ => look3_any 10 n o v d W) hh
    · exact dev_core 75 (.inr (.inr (.inr rfl))) false true _ n o v d _ _ w (fun W => by have := of_any 11 n o v W; rwa [show ofA 11 o = #[.bool false, .bool true, .func (.func 75) #[] #[]] from by unfold ofA; rw [if_pos ⟨hm, by omega, by omega⟩]; rfl] at this) (fun W hb => look4_any 11 n o v d W (hd.below hb)) hh

end Go.Proofs.YtinjeijjfkkhbaaGreatDoor
