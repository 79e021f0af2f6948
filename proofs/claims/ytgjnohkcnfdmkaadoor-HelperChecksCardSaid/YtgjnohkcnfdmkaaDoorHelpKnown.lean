/-
  THE WALK of coldpluglaw14.known.
-/
import Derived.Test.YtgjnohkcnfdmkaaDoorHelpAny
import Derived.Test.YtgjnohkcnfdmkaaDoorSame
namespace Go.Proofs.YtgjnohkcnfdmkaaDoor
open Go.RowKit

def knowL : List Hp := [⟨⟨#[112, 114, 111, 98, 101, 32, 42]⟩, ⟨#[65, 61, 49, 59, 98, 61, 50, 59, 67, 61]⟩, false, 3⟩, ⟨⟨#[115, 108, 111, 119]⟩, ⟨#[]⟩, false, 50⟩]
theorem know1 : callS knowL 10 0 ⟨#[112, 114, 111, 98, 101, 32, 115, 100, 97]⟩ = (⟨#[65, 61, 49, 59, 98, 61, 50, 59, 67, 61]⟩, 3, 0) := by decide +kernel
theorem know2 : callS knowL 10 0 ⟨#[115, 108, 111, 119]⟩ = (⟨#[]⟩, 10, 142) := by decide +kernel
theorem know3 : callS knowL 10 16 ⟨#[112, 114, 111, 98, 101, 32, 120]⟩ = (⟨#[]⟩, 0, 144) := by decide +kernel
theorem know4 : items ⟨#[65, 61, 49, 59, 98, 61, 50, 59, 67, 61, 59, 68, 61, 61]⟩ = [(⟨#[65]⟩, ⟨#[49]⟩), (⟨#[68]⟩, ⟨#[61]⟩)] := by decide +kernel
theorem know5 : ∀ h ∈ knowL, h.cmd.size ≤ 1000000000000 := by decide

theorem helpers_new (l : List Hp) (hl : l.length ≤ 1000000) (w : World) (c : Nat) : HelpersAt (w.alloc (.cells (flatH l).toArray 40)) (.slice (some ⟨w.heap.size, 0, none⟩) l.length c) l := by
  refine ⟨hl, .inr ⟨w.heap.size, 0, c, rfl, by simp, fun k h hk => ?_⟩⟩
  have hB : Blk (w.alloc (.cells (flatH l).toArray 40)) w.heap.size 40 (flatH l).toArray := Blk.new _ _ _
  obtain ⟨h0, h1, h2, h3⟩ := flatH_get l k h hk
  simp only [Nat.zero_add]
  exact ⟨(hB.cell _).trans (by simpa using h0), (hB.cell _).trans (by simpa using h1), (hB.cell _).trans (by simpa using h2), (hB.cell _).trans (by simpa using h3)⟩

set_option maxRecDepth 100000 in
set_option maxHeartbeats 1000000 in
theorem hknown_any (w : World) (m : Int) (hm : w.cell? ⟨0, 0, none⟩ = some (.int .i64 m)) : Calls Tryd.prog 9 #[] w fun e w' => e = .returned (.bool true) ∧ Below w.heap.size w w' := by
  have h0lt : 0 < w.heap.size := World.block_lt_of_cell? w _ hm
  have hC1 := fun v W (hW : HelpersAt W v knowL) => call_any knowL v 10 0 ⟨#[112, 114, 111, 98, 101, 32, 115, 100, 97]⟩ W hW know5 (by decide)
  have hC2 := fun v W (hW : HelpersAt W v knowL) => call_any knowL v 10 0 ⟨#[115, 108, 111, 119]⟩ W hW know5 (by decide)
  have hC3 := fun v W (hW : HelpersAt W v knowL) => call_any knowL v 10 16 ⟨#[112, 114, 111, 98, 101, 32, 120]⟩ W hW know5 (by decide)
  rw [know1] at hC1
  rw [know2] at hC2
  rw [know3] at hC3
  have hI := fun W hW => items_any ⟨#[65, 61, 49, 59, 98, 61, 50, 59, 67, 61, 59, 68, 61, 61]⟩ m W (by decide) hW
  rw [know4] at hI
  have hC1' := Lib.hid hC1; clear hC1
  have hC2' := Lib.hid hC2; clear hC2
  have hC3' := Lib.hid hC3; clear hC3
  have hI' := Lib.hid hI; clear hI
  have hm' := Lib.hid hm; clear hm
  go_enter Tryd.func9, Tryd.ntmps9
  go_wp2_with fail
  have hN : HelpersAt (w.alloc (.cells #[.string ⟨#[112, 114, 111, 98, 101, 32, 42]⟩, .string ⟨#[65, 61, 49, 59, 98, 61, 50, 59, 67, 61]⟩, .bool false, .int .i64 3, .string ⟨#[115, 108, 111, 119]⟩, .string ⟨#[]⟩, .bool false, .int .i64 50] 40)) (.slice (some ⟨w.heap.size, 0, none⟩) 2 2) knowL := helpers_new knowL (by decide) w 2
  have hN' := Lib.hid hN; clear hN
  have k0 : Below w.heap.size w (w.alloc (.cells #[.string ⟨#[112, 114, 111, 98, 101, 32, 42]⟩, .string ⟨#[65, 61, 49, 59, 98, 61, 50, 59, 67, 61]⟩, .bool false, .int .i64 3, .string ⟨#[115, 108, 111, 119]⟩, .string ⟨#[]⟩, .bool false, .int .i64 50] 40)) := (Below.refl _ _).alloc (Nat.le_refl _) _
  have k0' := Lib.hid k0; clear k0
  generalize w.alloc (.cells #[.string ⟨#[112, 114, 111, 98, 101, 32, 42]⟩, .string ⟨#[65, 61, 49, 59, 98, 61, 50, 59, 67, 61]⟩, .bool false, .int .i64 3, .string ⟨#[115, 108, 111, 119]⟩, .string ⟨#[]⟩, .bool false, .int .i64 50] 40) = v0 at *
  refine (hC1'.out _ _ hN'.out).mono ?_
  rintro e v1 ⟨rfl, hb1⟩
  have k1 : Below w.heap.size w v1 := k0'.out.trans (hb1.mono k0'.out.size)
  have hN1 := Lib.hid (hN'.out.below hb1)
  have k1' := Lib.hid k1; clear k1 hb1 k0' hN' hC1'
  go_wp2_with fail
  refine (hC2'.out _ _ hN1.out).mono ?_
  rintro e v2 ⟨rfl, hb2⟩
  have k2 : Below w.heap.size w v2 := k1'.out.trans (hb2.mono k1'.out.size)
  have hN2 := Lib.hid (hN1.out.below hb2)
  have k2' := Lib.hid k2; clear k2 hb2 k1' hN1 hC2'
  go_wp2_with fail
  refine (hC3'.out _ _ hN2.out).mono ?_
  rintro e v3 ⟨rfl, hb3⟩
  have k3 : Below w.heap.size w v3 := k2'.out.trans (hb3.mono k2'.out.size)
  have m3 : v3.cell? ⟨0, 0, none⟩ = some (.int .i64 m) := (World.cell?_of_block (k3.block 0 h0lt)).trans hm'.out
  have m3' := Lib.hid m3; clear m3
  have k3' := Lib.hid k3; clear k3 hb3 k2' hN2 hC3'
  go_wp2_with fail
  refine (hI'.out _ m3'.out).mono ?_
  rintro e v4 ⟨⟨va, rfl, ha⟩, hb4⟩
  have k4 : Below w.heap.size w v4 := k3'.out.trans (hb4.mono k3'.out.size)
  have k4' := Lib.hid k4; clear k4 hb4 k3' m3' hI'
  obtain ⟨p, ca, rfl, hs⟩ := Attrs.shape ha
  obtain ⟨g, rfl, hg, hcs⟩ := hs (by decide)
  obtain ⟨c2, c3⟩ := hcs 1 _ rfl
  clear hs hcs ha
  simp only at c2 c3
  go_wp2_with fail
  go_ret
  exact ⟨rfl, k4'.out⟩

end Go.Proofs.YtgjnohkcnfdmkaaDoor
