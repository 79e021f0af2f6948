/-
  known of coldpluglaw12.
-/
import Derived.Test.YtinjeijjfkkhbaaGreatDoorMatchAnc
namespace Go.Proofs.YtinjeijjfkkhbaaGreatDoor
open Go Go.RowKit Go.Maps

theorem rowAt_blk {W : World} {g : Nat} {t : TypeId} {cs : Array Value} {sz cap n : Nat} {l : List (List Value)} (hB : Blk W g t cs) (hl : l.flatten = cs.toList) (hs : ∀ x ∈ l, x.length = sz) (h9 : l.length ≤ 9223372036854775807) (hn : l.length = n) : RowAt W (.slice (some ⟨g, 0, none⟩) n cap) sz l := by
  subst hn
  refine ⟨h9, .inr ⟨g, 0, cap, rfl, hB.lt, fun k xs hx j u hu => ?_⟩⟩
  rw [Nat.zero_add, hB.cell]
  have := rows_at l hs k xs hx j u hu
  rw [hl] at this
  simpa using this

def kUsb : Trm := ⟨9, ⟨#[]⟩, 1, ⟨#[117, 115, 98]⟩⟩
def kSd : Trm := ⟨8, ⟨#[]⟩, 1, ⟨#[115, 100, 42]⟩⟩
def kD1 : Dev := ⟨1, 0, ⟨#[117, 115, 98, 48]⟩, ⟨#[117, 115, 98, 48]⟩, ⟨#[117, 115, 98]⟩, ⟨#[]⟩, ⟨#[]⟩, 1, 0, none, 0, 0, []⟩
def kD2 (b : Nat) : Dev := ⟨2, 1, ⟨#[115, 100, 97]⟩, ⟨#[115, 100, 97]⟩, ⟨#[98, 108, 111, 99, 107]⟩, ⟨#[]⟩, ⟨#[]⟩, 2, 8, some ⟨b, 0, none⟩, 1, 1, [(⟨#[115, 105, 122, 101]⟩, ⟨#[53]⟩)]⟩
theorem k_anc1 (b : Nat) : ancR [kUsb] (chainF [kD1, kD2 b] 2) = (1, true) := by kernel_rfl
theorem k_anc2 (b : Nat) : ancR [kUsb, kSd] (chainF [kD1, kD2 b] 2) = (0, false) := by kernel_rfl
theorem k_dev (b : Nat) : devS 5 ⟨#[115, 105, 122, 101]⟩ 1 ⟨#[91, 48, 45, 57, 93]⟩ (kD2 b) = true := by kernel_rfl
def kDft (b : Nat) : Dft := ⟨.slice none 0 0, .slice (some ⟨b, 0, none⟩) 2 2, .slice none 0 0, .slice none 0 0, .slice none 0 0, ⟨#[]⟩, 0, ⟨#[]⟩, ⟨#[]⟩, 0, ⟨#[]⟩, 0, 0, .slice none 0 0, [], [⟨#[97]⟩, ⟨#[120, 49]⟩]⟩
theorem k_draft (b : Nat) : draftS 7 ⟨#[]⟩ 2 ⟨#[120, 42]⟩ ⟨#[97, 100, 100]⟩ (kDft b) = false := by kernel_rfl

theorem k_devs {W : World} {n m : Nat} (h1 : Blk W n 50 #[.string ⟨#[115, 105, 122, 101]⟩, .string ⟨#[53]⟩]) (h2 : Blk W m 40 #[.int .i64 1, .int .i64 0, .string ⟨#[117, 115, 98, 48]⟩, .string ⟨#[117, 115, 98, 48]⟩, .string ⟨#[117, 115, 98]⟩, .string ⟨#[]⟩, .string ⟨#[]⟩, .int .i64 1, .int .i64 0, .slice none 0 0, .int .i64 2, .int .i64 1, .string ⟨#[115, 100, 97]⟩, .string ⟨#[115, 100, 97]⟩, .string ⟨#[98, 108, 111, 99, 107]⟩, .string ⟨#[]⟩, .string ⟨#[]⟩, .int .i64 2, .int .i64 8, .slice (some ⟨n, 0, none⟩) 1 1]) : DevsAt W (.slice (some ⟨m, 0, none⟩) 2 2) [kD1, kD2 n] := by
  refine ⟨rowAt_blk (n := 2) h2 rfl (dev_ten [kD1, kD2 n]) (by decide : (2 : Nat) ≤ 9223372036854775807) rfl, fun d hd => ?_⟩
  simp only [List.mem_cons, List.not_mem_nil, or_false] at hd
  rcases hd with rfl | rfl
  · exact ⟨by decide, .inl ⟨rfl, rfl⟩⟩
  · exact rowAt_blk (n := 1) h1 rfl (att_two [(⟨#[115, 105, 122, 101]⟩, ⟨#[53]⟩)]) (by decide : (1 : Nat) ≤ 9223372036854775807) rfl
theorem k_all {n : Nat} {P : Dev → Prop} (h1 : P kD1) (h2 : P (kD2 n)) : ∀ d ∈ [kD1, kD2 n], P d := fun d hd => by
  simp only [List.mem_cons, List.not_mem_nil, or_false] at hd
  rcases hd with rfl | rfl
  · exact h1
  · exact h2
theorem k_fit1 : DevFit kD1 := ⟨by decide, by decide, by decide, fun x hx => by cases hx⟩
theorem k_fit2 (n : Nat) : DevFit (kD2 n) := ⟨(by decide : (3 : Nat) ≤ 9223372036854775807), (by decide : (5 : Nat) ≤ 9223372036854775807), (by decide : (0 : Nat) ≤ 9223372036854775807), fun x hx => by rw [List.mem_singleton.1 hx]; decide⟩
theorem k_dfit (b : Nat) : DftFit (kDft b) := by
  refine ⟨(by decide : (0 : Nat) ≤ 9223372036854775807), (fun a ha => by cases ha), fun s hs => ?_⟩
  simp only [kDft, List.mem_cons, List.not_mem_nil, or_false] at hs
  rcases hs with rfl | rfl <;> decide
theorem four_one (l : List Trm) : ∀ x ∈ l.map trmC, x.length = 4 := fun x hx => by
  obtain ⟨y, _, rfl⟩ := List.mem_map.1 hx
  rfl
/-- match.Ancestor at the example's tree. -/
theorem k_call (ts : List Trm) (g cap : Nat) (cs : Array Value) (R : Int × Bool) (n : Nat) (W : World) (h1 : Blk W n 50 #[.string ⟨#[115, 105, 122, 101]⟩, .string ⟨#[53]⟩]) (h2 : Blk W (n + 1) 40 #[.int .i64 1, .int .i64 0, .string ⟨#[117, 115, 98, 48]⟩, .string ⟨#[117, 115, 98, 48]⟩, .string ⟨#[117, 115, 98]⟩, .string ⟨#[]⟩, .string ⟨#[]⟩, .int .i64 1, .int .i64 0, .slice none 0 0, .int .i64 2, .int .i64 1, .string ⟨#[115, 100, 97]⟩, .string ⟨#[115, 100, 97]⟩, .string ⟨#[98, 108, 111, 99, 107]⟩, .string ⟨#[]⟩, .string ⟨#[]⟩, .int .i64 2, .int .i64 8, .slice (some ⟨n, 0, none⟩) 1 1]) (h3 : Blk W g 46 cs) (h4 : (ts.map trmC).flatten = cs.toList) (h5 : ∀ t ∈ ts, t.v.size ≤ 9223372036854775807) (h6 : ts.length ≤ 1000) (hR : ancR ts (chainF [kD1, kD2 n] 2) = R) :
    Calls Tryz.prog 9 #[.slice (some ⟨g, 0, none⟩) ts.length cap, .agg #[.slice (some ⟨n + 1, 0, none⟩) 2 2], .int .i64 2] W fun e w' => e = .returned (.tuple #[.int .i64 R.1, .bool R.2]) ∧ Below W.heap.size W w' := by
  rw [← hR]
  exact ancestor_any ts (.slice (some ⟨g, 0, none⟩) ts.length cap) [kD1, kD2 n] (some ⟨n + 1, 0, none⟩) 2 2 2 W (k_devs h1 h2) rfl (by decide) (k_all ⟨by unfold Wf; decide, by unfold Wf; decide⟩ ⟨(by decide : Wf 2), (by decide : Wf 1)⟩) (k_all (by decide) (by decide : (3 : Nat) ≤ 1000000)) (k_all ⟨rfl, fun _ => ⟨rfl, rfl⟩, (by decide : (0 : Nat) ≤ 1000000000)⟩ ⟨rfl, (fun h => by cases h), (by decide : (1 : Nat) ≤ 1000000000)⟩) (by unfold Wf; decide)
    (rowAt_blk h3 h4 (four_one ts) (by rw [List.length_map]; omega) (by rw [List.length_map])) h5 (k_all k_fit1 (k_fit2 n))

set_option maxRecDepth 100000 in
set_option maxHeartbeats 4000000 in
theorem mknown_any (w : World) : Calls Tryz.prog 5 #[] w fun e w' => e = .returned (.bool true) ∧ Below w.heap.size w w' := by
  have hb5 : Hid (Below w.heap.size w (((((w.alloc (.cells #[.string ⟨#[115, 105, 122, 101]⟩, .string ⟨#[53]⟩] 50)).alloc (.cells #[.int .i64 1, .int .i64 0, .string ⟨#[117, 115, 98, 48]⟩, .string ⟨#[117, 115, 98, 48]⟩, .string ⟨#[117, 115, 98]⟩, .string ⟨#[]⟩, .string ⟨#[]⟩, .int .i64 1, .int .i64 0, .slice none 0 0, .int .i64 2, .int .i64 1, .string ⟨#[115, 100, 97]⟩, .string ⟨#[115, 100, 97]⟩, .string ⟨#[98, 108, 111, 99, 107]⟩, .string ⟨#[]⟩, .string ⟨#[]⟩, .int .i64 2, .int .i64 8, .slice (some ⟨w.heap.size, 0, none⟩) 1 1] 40)).alloc (.cells #[.slice (some ⟨w.heap.size + 1, 0, none⟩) 2 2] 30)).alloc (.cells #[.int .i64 9, .string ⟨#[]⟩, .int .i64 1, .string ⟨#[117, 115, 98]⟩] 46)).alloc (.cells #[.int .i64 9, .string ⟨#[]⟩, .int .i64 1, .string ⟨#[117, 115, 98]⟩] 46))) := by
    have a1 : Below w.heap.size w (w.alloc (.cells #[.string ⟨#[115, 105, 122, 101]⟩, .string ⟨#[53]⟩] 50)) := (Below.refl _ _).alloc (Nat.le_refl _) _
    have a2 : Below w.heap.size w ((w.alloc (.cells #[.string ⟨#[115, 105, 122, 101]⟩, .string ⟨#[53]⟩] 50)).alloc (.cells #[.int .i64 1, .int .i64 0, .string ⟨#[117, 115, 98, 48]⟩, .string ⟨#[117, 115, 98, 48]⟩, .string ⟨#[117, 115, 98]⟩, .string ⟨#[]⟩, .string ⟨#[]⟩, .int .i64 1, .int .i64 0, .slice none 0 0, .int .i64 2, .int .i64 1, .string ⟨#[115, 100, 97]⟩, .string ⟨#[115, 100, 97]⟩, .string ⟨#[98, 108, 111, 99, 107]⟩, .string ⟨#[]⟩, .string ⟨#[]⟩, .int .i64 2, .int .i64 8, .slice (some ⟨w.heap.size, 0, none⟩) 1 1] 40)) := a1.alloc a1.size _
    have a3 : Below w.heap.size w (((w.alloc (.cells #[.string ⟨#[115, 105, 122, 101]⟩, .string ⟨#[53]⟩] 50)).alloc (.cells #[.int .i64 1, .int .i64 0, .string ⟨#[117, 115, 98, 48]⟩, .string ⟨#[117, 115, 98, 48]⟩, .string ⟨#[117, 115, 98]⟩, .string ⟨#[]⟩, .string ⟨#[]⟩, .int .i64 1, .int .i64 0, .slice none 0 0, .int .i64 2, .int .i64 1, .string ⟨#[115, 100, 97]⟩, .string ⟨#[115, 100, 97]⟩, .string ⟨#[98, 108, 111, 99, 107]⟩, .string ⟨#[]⟩, .string ⟨#[]⟩, .int .i64 2, .int .i64 8, .slice (some ⟨w.heap.size, 0, none⟩) 1 1] 40)).alloc (.cells #[.slice (some ⟨w.heap.size + 1, 0, none⟩) 2 2] 30)) := a2.alloc a2.size _
    have a4 : Below w.heap.size w ((((w.alloc (.cells #[.string ⟨#[115, 105, 122, 101]⟩, .string ⟨#[53]⟩] 50)).alloc (.cells #[.int .i64 1, .int .i64 0, .string ⟨#[117, 115, 98, 48]⟩, .string ⟨#[117, 115, 98, 48]⟩, .string ⟨#[117, 115, 98]⟩, .string ⟨#[]⟩, .string ⟨#[]⟩, .int .i64 1, .int .i64 0, .slice none 0 0, .int .i64 2, .int .i64 1, .string ⟨#[115, 100, 97]⟩, .string ⟨#[115, 100, 97]⟩, .string ⟨#[98, 108, 111, 99, 107]⟩, .string ⟨#[]⟩, .string ⟨#[]⟩, .int .i64 2, .int .i64 8, .slice (some ⟨w.heap.size, 0, none⟩) 1 1] 40)).alloc (.cells #[.slice (some ⟨w.heap.size + 1, 0, none⟩) 2 2] 30)).alloc (.cells #[.int .i64 9, .string ⟨#[]⟩, .int .i64 1, .string ⟨#[117, 115, 98]⟩] 46)) := a3.alloc a3.size _
    exact a4.alloc a4.size _
  have hA : Hid (Blk (((((w.alloc (.cells #[.string ⟨#[115, 105, 122, 101]⟩, .string ⟨#[53]⟩] 50)).alloc (.cells #[.int .i64 1, .int .i64 0, .string ⟨#[117, 115, 98, 48]⟩, .string ⟨#[117, 115, 98, 48]⟩, .string ⟨#[117, 115, 98]⟩, .string ⟨#[]⟩, .string ⟨#[]⟩, .int .i64 1, .int .i64 0, .slice none 0 0, .int .i64 2, .int .i64 1, .string ⟨#[115, 100, 97]⟩, .string ⟨#[115, 100, 97]⟩, .string ⟨#[98, 108, 111, 99, 107]⟩, .string ⟨#[]⟩, .string ⟨#[]⟩, .int .i64 2, .int .i64 8, .slice (some ⟨w.heap.size, 0, none⟩) 1 1] 40)).alloc (.cells #[.slice (some ⟨w.heap.size + 1, 0, none⟩) 2 2] 30)).alloc (.cells #[.int .i64 9, .string ⟨#[]⟩, .int .i64 1, .string ⟨#[117, 115, 98]⟩] 46)).alloc (.cells #[.int .i64 9, .string ⟨#[]⟩, .int .i64 1, .string ⟨#[117, 115, 98]⟩] 46)) w.heap.size 50 #[.string ⟨#[115, 105, 122, 101]⟩, .string ⟨#[53]⟩]) := ((((Blk.new _ _ _).alloc _).alloc _).alloc _).alloc _
  have hD : Hid (Blk (((((w.alloc (.cells #[.string ⟨#[115, 105, 122, 101]⟩, .string ⟨#[53]⟩] 50)).alloc (.cells #[.int .i64 1, .int .i64 0, .string ⟨#[117, 115, 98, 48]⟩, .string ⟨#[117, 115, 98, 48]⟩, .string ⟨#[117, 115, 98]⟩, .string ⟨#[]⟩, .string ⟨#[]⟩, .int .i64 1, .int .i64 0, .slice none 0 0, .int .i64 2, .int .i64 1, .string ⟨#[115, 100, 97]⟩, .string ⟨#[115, 100, 97]⟩, .string ⟨#[98, 108, 111, 99, 107]⟩, .string ⟨#[]⟩, .string ⟨#[]⟩, .int .i64 2, .int .i64 8, .slice (some ⟨w.heap.size, 0, none⟩) 1 1] 40)).alloc (.cells #[.slice (some ⟨w.heap.size + 1, 0, none⟩) 2 2] 30)).alloc (.cells #[.int .i64 9, .string ⟨#[]⟩, .int .i64 1, .string ⟨#[117, 115, 98]⟩] 46)).alloc (.cells #[.int .i64 9, .string ⟨#[]⟩, .int .i64 1, .string ⟨#[117, 115, 98]⟩] 46)) (w.heap.size + 1) 40 #[.int .i64 1, .int .i64 0, .string ⟨#[117, 115, 98, 48]⟩, .string ⟨#[117, 115, 98, 48]⟩, .string ⟨#[117, 115, 98]⟩, .string ⟨#[]⟩, .string ⟨#[]⟩, .int .i64 1, .int .i64 0, .slice none 0 0, .int .i64 2, .int .i64 1, .string ⟨#[115, 100, 97]⟩, .string ⟨#[115, 100, 97]⟩, .string ⟨#[98, 108, 111, 99, 107]⟩, .string ⟨#[]⟩, .string ⟨#[]⟩, .int .i64 2, .int .i64 8, .slice (some ⟨w.heap.size, 0, none⟩) 1 1]) := (((Blk.new_ _ _ _ (by simp)).alloc _).alloc _).alloc _
  have hT : Hid (Blk (((((w.alloc (.cells #[.string ⟨#[115, 105, 122, 101]⟩, .string ⟨#[53]⟩] 50)).alloc (.cells #[.int .i64 1, .int .i64 0, .string ⟨#[117, 115, 98, 48]⟩, .string ⟨#[117, 115, 98, 48]⟩, .string ⟨#[117, 115, 98]⟩, .string ⟨#[]⟩, .string ⟨#[]⟩, .int .i64 1, .int .i64 0, .slice none 0 0, .int .i64 2, .int .i64 1, .string ⟨#[115, 100, 97]⟩, .string ⟨#[115, 100, 97]⟩, .string ⟨#[98, 108, 111, 99, 107]⟩, .string ⟨#[]⟩, .string ⟨#[]⟩, .int .i64 2, .int .i64 8, .slice (some ⟨w.heap.size, 0, none⟩) 1 1] 40)).alloc (.cells #[.slice (some ⟨w.heap.size + 1, 0, none⟩) 2 2] 30)).alloc (.cells #[.int .i64 9, .string ⟨#[]⟩, .int .i64 1, .string ⟨#[117, 115, 98]⟩] 46)).alloc (.cells #[.int .i64 9, .string ⟨#[]⟩, .int .i64 1, .string ⟨#[117, 115, 98]⟩] 46)) (w.heap.size + 1 + 1) 30 #[.slice (some ⟨w.heap.size + 1, 0, none⟩) 2 2]) := ((Blk.new_ _ _ _ (by simp)).alloc _).alloc _
  have hU : Hid (Blk (((((w.alloc (.cells #[.string ⟨#[115, 105, 122, 101]⟩, .string ⟨#[53]⟩] 50)).alloc (.cells #[.int .i64 1, .int .i64 0, .string ⟨#[117, 115, 98, 48]⟩, .string ⟨#[117, 115, 98, 48]⟩, .string ⟨#[117, 115, 98]⟩, .string ⟨#[]⟩, .string ⟨#[]⟩, .int .i64 1, .int .i64 0, .slice none 0 0, .int .i64 2, .int .i64 1, .string ⟨#[115, 100, 97]⟩, .string ⟨#[115, 100, 97]⟩, .string ⟨#[98, 108, 111, 99, 107]⟩, .string ⟨#[]⟩, .string ⟨#[]⟩, .int .i64 2, .int .i64 8, .slice (some ⟨w.heap.size, 0, none⟩) 1 1] 40)).alloc (.cells #[.slice (some ⟨w.heap.size + 1, 0, none⟩) 2 2] 30)).alloc (.cells #[.int .i64 9, .string ⟨#[]⟩, .int .i64 1, .string ⟨#[117, 115, 98]⟩] 46)).alloc (.cells #[.int .i64 9, .string ⟨#[]⟩, .int .i64 1, .string ⟨#[117, 115, 98]⟩] 46)) (w.heap.size + 1 + 1 + 1) 46 #[.int .i64 9, .string ⟨#[]⟩, .int .i64 1, .string ⟨#[117, 115, 98]⟩]) := (Blk.new_ _ _ _ (by simp)).alloc _
  have hL : Hid (Blk (((((w.alloc (.cells #[.string ⟨#[115, 105, 122, 101]⟩, .string ⟨#[53]⟩] 50)).alloc (.cells #[.int .i64 1, .int .i64 0, .string ⟨#[117, 115, 98, 48]⟩, .string ⟨#[117, 115, 98, 48]⟩, .string ⟨#[117, 115, 98]⟩, .string ⟨#[]⟩, .string ⟨#[]⟩, .int .i64 1, .int .i64 0, .slice none 0 0, .int .i64 2, .int .i64 1, .string ⟨#[115, 100, 97]⟩, .string ⟨#[115, 100, 97]⟩, .string ⟨#[98, 108, 111, 99, 107]⟩, .string ⟨#[]⟩, .string ⟨#[]⟩, .int .i64 2, .int .i64 8, .slice (some ⟨w.heap.size, 0, none⟩) 1 1] 40)).alloc (.cells #[.slice (some ⟨w.heap.size + 1, 0, none⟩) 2 2] 30)).alloc (.cells #[.int .i64 9, .string ⟨#[]⟩, .int .i64 1, .string ⟨#[117, 115, 98]⟩] 46)).alloc (.cells #[.int .i64 9, .string ⟨#[]⟩, .int .i64 1, .string ⟨#[117, 115, 98]⟩] 46)) (w.heap.size + 1 + 1 + 1 + 1) 46 #[.int .i64 9, .string ⟨#[]⟩, .int .i64 1, .string ⟨#[117, 115, 98]⟩]) := Blk.new_ _ _ _ (by simp)
  have hC1 := Lib.hid (k_call [kUsb] (w.heap.size + 1 + 1 + 1 + 1) 1 #[.int .i64 9, .string ⟨#[]⟩, .int .i64 1, .string ⟨#[117, 115, 98]⟩] (1, true) w.heap.size _ hA.out hD.out hL.out rfl (fun t ht => by rw [List.mem_singleton.1 ht]; decide) (by decide) (k_anc1 _))
  simp only [List.length_cons, List.length_nil, Nat.zero_add] at hC1
  go_enter Tryz.func5, Tryz.ntmps5
  go_wp2_with fail
  generalize ((((w.alloc (.cells #[.string ⟨#[115, 105, 122, 101]⟩, .string ⟨#[53]⟩] 50)).alloc (.cells #[.int .i64 1, .int .i64 0, .string ⟨#[117, 115, 98, 48]⟩, .string ⟨#[117, 115, 98, 48]⟩, .string ⟨#[117, 115, 98]⟩, .string ⟨#[]⟩, .string ⟨#[]⟩, .int .i64 1, .int .i64 0, .slice none 0 0, .int .i64 2, .int .i64 1, .string ⟨#[115, 100, 97]⟩, .string ⟨#[115, 100, 97]⟩, .string ⟨#[98, 108, 111, 99, 107]⟩, .string ⟨#[]⟩, .string ⟨#[]⟩, .int .i64 2, .int .i64 8, .slice (some ⟨w.heap.size, 0, none⟩) 1 1] 40)).alloc (.cells #[.slice (some ⟨w.heap.size + 1, 0, none⟩) 2 2] 30)).alloc (.cells #[.int .i64 9, .string ⟨#[]⟩, .int .i64 1, .string ⟨#[117, 115, 98]⟩] 46)).alloc (.cells #[.int .i64 9, .string ⟨#[]⟩, .int .i64 1, .string ⟨#[117, 115, 98]⟩] 46) = w5 at *
  refine hC1.out.mono ?_
  rintro e y1 ⟨rfl, hy1⟩
  have hb6 := Lib.hid (hb5.out.trans (hy1.mono hb5.out.size))
  have hA6 := Lib.hid (hA.out.below hy1 hA.out.lt)
  have hD6 := Lib.hid (hD.out.below hy1 hD.out.lt)
  have hT6 := Lib.hid (hT.out.below hy1 hT.out.lt)
  have hU6 := Lib.hid (hU.out.below hy1 hU.out.lt)
  clear hb5 hA hD hT hU hL hC1 hy1
  have f0 := hU6.out.cell 0
  have f1 := hU6.out.cell 1
  have f2 := hU6.out.cell 2
  have f3 := hU6.out.cell 3
  have ft := hT6.out.cell 0
  simp only [List.getElem?_toArray, List.getElem?_cons_zero, List.getElem?_cons_succ] at f0 f1 f2 f3 ft
  have hb7 : Hid (Below w.heap.size w (y1.alloc (.cells #[.int .i64 9, .string ⟨#[]⟩, .int .i64 1, .string ⟨#[117, 115, 98]⟩, .int .i64 8, .string ⟨#[]⟩, .int .i64 1, .string ⟨#[115, 100, 42]⟩] 46))) := hb6.out.alloc hb6.out.size _
  have hA7 := Lib.hid (hA6.out.alloc (.cells #[.int .i64 9, .string ⟨#[]⟩, .int .i64 1, .string ⟨#[117, 115, 98]⟩, .int .i64 8, .string ⟨#[]⟩, .int .i64 1, .string ⟨#[115, 100, 42]⟩] 46))
  have hD7 := Lib.hid (hD6.out.alloc (.cells #[.int .i64 9, .string ⟨#[]⟩, .int .i64 1, .string ⟨#[117, 115, 98]⟩, .int .i64 8, .string ⟨#[]⟩, .int .i64 1, .string ⟨#[115, 100, 42]⟩] 46))
  have hT7 := Lib.hid (hT6.out.alloc (.cells #[.int .i64 9, .string ⟨#[]⟩, .int .i64 1, .string ⟨#[117, 115, 98]⟩, .int .i64 8, .string ⟨#[]⟩, .int .i64 1, .string ⟨#[115, 100, 42]⟩] 46))
  have hC2 := Lib.hid (k_call [kUsb, kSd] y1.heap.size 2 #[.int .i64 9, .string ⟨#[]⟩, .int .i64 1, .string ⟨#[117, 115, 98]⟩, .int .i64 8, .string ⟨#[]⟩, .int .i64 1, .string ⟨#[115, 100, 42]⟩] (0, false) w.heap.size _ hA7.out hD7.out (Blk.new y1 46 #[.int .i64 9, .string ⟨#[]⟩, .int .i64 1, .string ⟨#[117, 115, 98]⟩, .int .i64 8, .string ⟨#[]⟩, .int .i64 1, .string ⟨#[115, 100, 42]⟩]) rfl (fun t ht => by
    simp only [List.mem_cons, List.not_mem_nil, or_false] at ht
    rcases ht with rfl | rfl <;> decide) (by decide) (k_anc2 _))
  simp only [List.length_cons, List.length_nil, Nat.zero_add, Nat.reduceAdd] at hC2
  have ft2 := hT7.out.cell 0
  simp only [List.getElem?_toArray, List.getElem?_cons_zero] at ft2
  clear hA6 hD6 hT6 hU6 hb6
  go_wp2_with fail
  generalize y1.alloc (.cells #[.int .i64 9, .string ⟨#[]⟩, .int .i64 1, .string ⟨#[117, 115, 98]⟩, .int .i64 8, .string ⟨#[]⟩, .int .i64 1, .string ⟨#[115, 100, 42]⟩] 46) = w7 at *
  refine hC2.out.mono ?_
  rintro e y2 ⟨rfl, hy2⟩
  have hb8 := Lib.hid (hb7.out.trans (hy2.mono hb7.out.size))
  have hA8 := Lib.hid (hA7.out.below hy2 hA7.out.lt)
  have hD8 := Lib.hid (hD7.out.below hy2 hD7.out.lt)
  have hT8 := Lib.hid (hT7.out.below hy2 hT7.out.lt)
  clear hb7 hA7 hD7 hT7 hC2 hy2 f0 f1 f2 f3 ft ft2
  have ft := hT8.out.cell 0
  have q0 := hD8.out.cell 10
  have q1 := hD8.out.cell 11
  have q2 := hD8.out.cell 12
  have q3 := hD8.out.cell 13
  have q4 := hD8.out.cell 14
  have q5 := hD8.out.cell 15
  have q6 := hD8.out.cell 16
  have q7 := hD8.out.cell 17
  have q8 := hD8.out.cell 18
  have q9 := hD8.out.cell 19
  simp only [List.getElem?_toArray, List.getElem?_cons_zero, List.getElem?_cons_succ] at ft q0 q1 q2 q3 q4 q5 q6 q7 q8 q9
  have hDV := device_any 5 ⟨#[115, 105, 122, 101]⟩ 1 ⟨#[91, 48, 45, 57, 93]⟩ (kD2 w.heap.size) y2 ((k_devs hA8.out hD8.out).2 _ (by simp)) (k_fit2 _) (by decide)
  rw [k_dev] at hDV
  unfold termV devV kD2 at hDV
  simp only at hDV
  have hDV' := Lib.hid hDV; clear hDV hA8 hD8 hT8
  go_wp2_with fail
  refine hDV'.out.mono ?_
  rintro e y3 ⟨rfl, hy3⟩
  have hb9 := Lib.hid (hb8.out.trans (hy3.mono hb8.out.size))
  have hb10 : Hid (Below w.heap.size w (y3.alloc (.cells #[.string ⟨#[97]⟩, .string ⟨#[120, 49]⟩] 9))) := hb9.out.alloc hb9.out.size _
  have hDr := draft_any 7 ⟨#[]⟩ 2 ⟨#[120, 42]⟩ ⟨#[97, 100, 100]⟩ (kDft y3.heap.size) (y3.alloc (.cells #[.string ⟨#[97]⟩, .string ⟨#[120, 49]⟩] 9)) ⟨⟨(by decide : (0 : Nat) ≤ 9223372036854775807), .inl ⟨rfl, rfl⟩⟩, rowAt_blk (n := 2) (Blk.new y3 9 #[.string ⟨#[97]⟩, .string ⟨#[120, 49]⟩]) rfl (fun x hx => by obtain ⟨y, _, rfl⟩ := List.mem_map.1 hx; rfl) (by decide : (2 : Nat) ≤ 9223372036854775807) rfl⟩ (k_dfit _) (by decide) (by decide)
  rw [k_draft] at hDr
  unfold termV dftC kDft at hDr
  simp only at hDr
  have hDr' := Lib.hid hDr; clear hDr hb8 hDV' hy3
  go_wp2_with fail
  refine hDr'.out.mono ?_
  rintro e y4 ⟨rfl, hy4⟩
  have hb11 := Lib.hid (hb10.out.trans (hy4.mono hb10.out.size))
  clear hy4 hDr'
  go_wp2_with fail
  go_ret
  exact ⟨rfl, hb11.out⟩

end Go.Proofs.YtinjeijjfkkhbaaGreatDoor
