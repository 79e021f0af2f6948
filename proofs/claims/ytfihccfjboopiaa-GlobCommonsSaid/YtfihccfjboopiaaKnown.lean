/-
  THE WALK of coldpluglaw02.known.
-/
import Derived.Test.YtfihccfjboopiaaPrefix
import Derived.Test.YtfihccfjboopiaaKnownP
namespace Go.Proofs.Ytfihccfjboopiaa
open Go.RowKit Go.Maps

theorem bs_eq {s t : ByteArray} (h : bs s = bs t) : s = t := by
  have : s.data.toList = t.data.toList := by
    have h2 : Function.Injective UInt8.toNat := fun a b h => UInt8.toNat_inj.1 h
    exact (List.map_inj_right (fun a b h => h2 h)).1 h
  cases s; cases t
  simp only [ByteArray.mk.injEq]
  exact Array.toList_inj.1 this

set_option maxHeartbeats 1000000 in
theorem known_any (w : World) : Calls Try.prog 23 #[] w fun e w' => e = .returned (.bool true) ∧ Below w.heap.size w w' := by
  have hC : ∀ W, Calls Try.prog 24 #[.string ⟨#[97, 42]⟩, .string ⟨#[42, 98]⟩] W fun e w' => e = .returned (.tuple #[.string ⟨#[97, 98]⟩, .bool true, .int .i64 0]) ∧ Below W.heap.size W w' := fun W => by
    refine (common_any ⟨#[97, 42]⟩ ⟨#[42, 98]⟩ W (by decide) (by decide)).mono ?_
    rintro e w' ⟨s, ok, er, rfl, hb, ⟨_, _, h⟩, _⟩
    obtain ⟨rfl, h1, h2⟩ := h (errS_some G.ex3) (errS_some G.ex4)
    have h3 := G.ex5 h2
    cases ok with
    | false => simp at h3
    | true =>
      have h4 : bs s = [97, 98] := by simpa using h3
      have : s = ⟨#[97, 98]⟩ := bs_eq h4
      subst this
      exact ⟨rfl, hb⟩
  have hX : ∀ W, Calls Try.prog 45 #[.string ⟨#[117, 115, 98, 58, 118, 49, 42, 124, 117, 115, 98, 58, 119, 63]⟩] W fun e w' => e = .returned (.tuple #[.string ⟨#[117, 115, 98, 58]⟩, .int .i64 0]) ∧ Below W.heap.size W w' := fun W => by
    refine (prefix_any _ W (by decide)).mono ?_
    rintro e w' ⟨s, er, rfl, ⟨h1, h2, h3⟩, hb⟩
    have h0 := errS_some G.ex6
    have h4 := h3 _ G.ex6
    rw [G.ex7] at h4
    have : s = ⟨#[117, 115, 98, 58]⟩ := bs_eq h4
    subst this
    have : er = 0 := h1.trans h0
    subst this
    exact ⟨rfl, hb⟩
  have hM1 : ∀ W, Calls Try.prog 13 #[.string ⟨#[115, 100, 91, 97, 45, 99, 93, 42, 124, 110, 118, 109, 101, 63]⟩, .string ⟨#[115, 100, 98, 49]⟩] W fun e w' => e = .returned (.bool true) ∧ Below W.heap.size W w' := fun W => by
    refine (match_any _ _ W (by decide) (by decide)).mono ?_
    rintro e w' ⟨rfl, hb⟩
    exact ⟨congrArg (fun b => Ending.returned (.bool b)) G.ex1, hb⟩
  have hM2 : ∀ W, Calls Try.prog 13 #[.string ⟨#[115, 100, 91, 33, 97, 45, 99, 93]⟩, .string ⟨#[115, 100, 98]⟩] W fun e w' => e = .returned (.bool false) ∧ Below W.heap.size W w' := fun W => by
    refine (match_any _ _ W (by decide) (by decide)).mono ?_
    rintro e w' ⟨rfl, hb⟩
    exact ⟨congrArg (fun b => Ending.returned (.bool b)) G.ex2, hb⟩
  have hC' := Lib.hid hC; clear hC
  have hX' := Lib.hid hX; clear hX
  have hM1' := Lib.hid hM1; clear hM1
  have hM2' := Lib.hid hM2; clear hM2
  go_enter Try.func23, Try.ntmps23
  go_wp2_with fail
  refine (hC'.out _).mono ?_
  rintro e w1 ⟨rfl, hb1⟩
  have hb1' := Lib.hid hb1; clear hb1 hC'
  go_wp2_with fail
  refine (hX'.out _).mono ?_
  rintro e w2 ⟨rfl, hb2⟩
  have h2 : Below w.heap.size w w2 := hb1'.out.trans (hb2.mono hb1'.out.size)
  have h2' := Lib.hid h2; clear h2 hb2 hb1' hX'
  go_wp2_with fail
  refine (hM1'.out _).mono ?_
  rintro e w3 ⟨rfl, hb3⟩
  have h3 : Below w.heap.size w w3 := h2'.out.trans (hb3.mono h2'.out.size)
  have h3' := Lib.hid h3; clear h3 hb3 h2' hM1'
  go_wp2_with fail
  refine (hM2'.out _).mono ?_
  rintro e w4 ⟨rfl, hb4⟩
  have h4 : Below w.heap.size w w4 := h3'.out.trans (hb4.mono h3'.out.size)
  have h4' := Lib.hid h4; clear h4 hb4 h3' hM2'
  go_wp2_with fail
  go_ret
  exact ⟨rfl, h4'.out⟩

end Go.Proofs.Ytfihccfjboopiaa
