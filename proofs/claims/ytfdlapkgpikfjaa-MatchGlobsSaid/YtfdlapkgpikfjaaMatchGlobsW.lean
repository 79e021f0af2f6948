/-
  THE WALK of the law MatchGlobs.
-/
import Derived.Test.YtfdlapkgpikfjaaMatchKnown
namespace Go.Proofs.Ytfdlapkgpikfjaa
open Go Go.RowKit Go.Maps

def gD (b : Nat) (s : ByteArray) : Dev := ⟨0, 0, ⟨#[]⟩, s, s, s, ⟨#[]⟩, 0, 0, some ⟨b, 0, none⟩, 1, 1, [(⟨#[97]⟩, s)]⟩
def gF (b c : Nat) (s : ByteArray) : Dft := ⟨.slice (some ⟨b, 0, none⟩) 1 1, .slice (some ⟨c, 0, none⟩) 1 1, .slice none 0 0, .slice none 0 0, .slice none 0 0, ⟨#[]⟩, 0, ⟨#[]⟩, ⟨#[]⟩, 0, s, 0, 0, .slice none 0 0, [(⟨#[75]⟩, s)], [s]⟩
theorem gD_fit (b : Nat) {s : ByteArray} (h : s.size ≤ 200) : DevFit (gD b s) := ⟨by show s.size ≤ _; omega, by show s.size ≤ _; omega, by show s.size ≤ _; omega, fun x hx => by
  rw [show (gD b s).att = [(⟨#[97]⟩, s)] from rfl, List.mem_singleton] at hx
  subst hx
  show s.size ≤ _
  omega⟩
theorem gF_fit (b c : Nat) {s : ByteArray} (h : s.size ≤ 200) : DftFit (gF b c s) := ⟨by show s.size ≤ _; omega, fun x hx => by
  rw [show (gF b c s).pl = [(⟨#[75]⟩, s)] from rfl, List.mem_singleton] at hx
  subst hx
  show s.size ≤ _
  omega, fun x hx => by
  rw [show (gF b c s).tl = [s] from rfl, List.mem_singleton] at hx
  subst hx
  omega⟩
theorem gD_at {W : World} {b : Nat} {s : ByteArray} (h : Blk W b 40 #[.string ⟨#[97]⟩, .string s]) : DevAt W (gD b s) := rowAt_blk (n := 1) h rfl (att_two [(⟨#[97]⟩, s)]) (by show 1 ≤ 1000000000; decide) rfl
theorem gF_at {W : World} {b c : Nat} {s : ByteArray} (h : Blk W b 40 #[.string ⟨#[75]⟩, .string s]) (h2 : Blk W c 9 #[.string s]) : DftAt W (gF b c s) :=
  ⟨rowAt_blk (n := 1) h rfl (att_two [(⟨#[75]⟩, s)]) (by show 1 ≤ 1000000000; decide) rfl, rowAt_blk (n := 1) h2 rfl (fun x hx => by obtain ⟨y, _, rfl⟩ := List.mem_map.1 hx; rfl) (by show 1 ≤ 1000000000; decide) rfl⟩
theorem holds_one (p s : ByteArray) : holdsS 1 p s = G.matchS (bs p) (bs s) := by unfold holdsS; simp
theorem gD_dev (k : Int) (b : Nat) (p s : ByteArray) (h : k = 2 ∨ k = 3 ∨ k = 4 ∨ k = 5) : devS k ⟨#[97]⟩ 1 p (gD b s) = G.matchS (bs p) (bs s) := by
  have hv : valK k ⟨#[97]⟩ (gD b s) = s := by
    rcases h with rfl | rfl | rfl | rfl
    · rfl
    · rfl
    · rfl
    · kernel_rfl
  unfold devS
  rw [hv, holds_one]
  rcases h with rfl | rfl | rfl | rfl <;> rfl
theorem gF_draft (k : Int) (b c : Nat) (n p a s : ByteArray) (h : k = 13 ∧ n = ⟨#[]⟩ ∨ k = 6 ∧ n = ⟨#[75]⟩ ∨ k = 7 ∧ n = ⟨#[]⟩ ∨ k = 1 ∧ n = ⟨#[]⟩ ∧ a = s) : draftS k n 1 p a (gF b c s) = G.matchS (bs p) (bs s) := by
  unfold draftS
  rcases h with ⟨rfl, rfl⟩ | ⟨rfl, rfl⟩ | ⟨rfl, rfl⟩ | ⟨rfl, rfl, rfl⟩
  · simp [isMatch, holds_one, gF]
  · have : (getS (gF b c s).pl ⟨#[75]⟩).1 = s := by kernel_rfl
    simp [isMatch, holds_one, this]
  · simp [isMatch, gF]
  · simp [isMatch, holds_one, gF]

set_option maxRecDepth 100000 in
set_option maxHeartbeats 4000000 in
theorem globs_walk (a0 : ByteArray) (a1 : ByteArray) (w0 : a0.size ≤ maxLen) (w1 : a1.size ≤ maxLen) (w : World) :
    Calls Try.prog 4 #[.string a0, .string a1] w fun e w' => e = .returned (.bool true) ∧ Below w.heap.size w w' := by
  have hK := fun W => mknown_any W
  have hK' := Lib.hid hK; clear hK
  by_cases s0 : a0.size ≤ 200
  · by_cases s1 : a1.size ≤ 200
    · have i0 : ¬ (200 : Int) < (a0.size : Int) := by omega
      have i1 : ¬ (200 : Int) < (a1.size : Int) := by omega
      have hC := fun W => match_any a0 a1 W (by omega) (by omega)
      have hD : ∀ (k : Int) (b : Nat) (W : World), (k = 2 ∨ k = 3 ∨ k = 4 ∨ k = 5) → Blk W b 40 #[.string ⟨#[97]⟩, .string a1] → Calls Try.prog 14 #[termV k ⟨#[97]⟩ 1 a0, devV (gD b a1)] W fun e w' => e = .returned (.bool (G.matchS (bs a0) (bs a1))) ∧ Below W.heap.size W w' := fun k b W hk hB => by
        have := device_any k ⟨#[97]⟩ 1 a0 (gD b a1) W (gD_at hB) (gD_fit b s1) (by omega)
        rwa [gD_dev k b a0 a1 hk] at this
      have hF : ∀ (k : Int) (n a : ByteArray) (b c : Nat) (W : World), (k = 13 ∧ n = ⟨#[]⟩ ∨ k = 6 ∧ n = ⟨#[75]⟩ ∨ k = 7 ∧ n = ⟨#[]⟩ ∨ k = 1 ∧ n = ⟨#[]⟩ ∧ a = a1) → a.size ≤ 200 → Blk W b 40 #[.string ⟨#[75]⟩, .string a1] → Blk W c 9 #[.string a1] → Calls Try.prog 11 #[termV k n 1 a0, .string a, .agg (dftC (gF b c a1))] W fun e w' => e = .returned (.bool (G.matchS (bs a0) (bs a1))) ∧ Below W.heap.size W w' := fun k n a b c W hk ha hB hC => by
        have := draft_any k n 1 a0 a (gF b c a1) W (gF_at hB hC) (gF_fit b c s1) (by omega) (by omega)
        rwa [gF_draft k b c n a0 a a1 hk] at this
      generalize G.matchS (bs a0) (bs a1) = m at *
      unfold termV devV dftC gD gF at *
      simp only at hD hF
      have hC' := Lib.hid hC; clear hC
      have hD' := Lib.hid hD; clear hD
      have hF' := Lib.hid hF; clear hF
      cases m with
      | true =>
        go_enter Try.func4, Try.ntmps4
        go_wp2_with fail
        refine (hC'.out _).mono ?_
        rintro e v1 ⟨rfl, hb1⟩
        have k1' := Lib.hid hb1; clear hb1 hC'
        have kA : Hid (Below w.heap.size w (((v1.alloc (.cells #[.string ⟨#[97]⟩, .string a1] 40)).alloc (.cells #[.int .i64 0, .int .i64 0, .string ⟨#[]⟩, .string a1, .string a1, .string a1, .string ⟨#[]⟩, .int .i64 0, .int .i64 0, .slice (some ⟨v1.heap.size, 0, none⟩) 1 1] 42)).alloc (.cells #[.int .i64 2, .int .i64 3, .int .i64 4, .int .i64 5] 3))) := by
          have z1 := k1'.out.alloc k1'.out.size (.cells #[.string ⟨#[97]⟩, .string a1] 40)
          have z2 := z1.alloc z1.size (.cells #[.int .i64 0, .int .i64 0, .string ⟨#[]⟩, .string a1, .string a1, .string a1, .string ⟨#[]⟩, .int .i64 0, .int .i64 0, .slice (some ⟨v1.heap.size, 0, none⟩) 1 1] 42)
          exact z2.alloc z2.size _
        have b1 : Hid (Blk (((v1.alloc (.cells #[.string ⟨#[97]⟩, .string a1] 40)).alloc (.cells #[.int .i64 0, .int .i64 0, .string ⟨#[]⟩, .string a1, .string a1, .string a1, .string ⟨#[]⟩, .int .i64 0, .int .i64 0, .slice (some ⟨v1.heap.size, 0, none⟩) 1 1] 42)).alloc (.cells #[.int .i64 2, .int .i64 3, .int .i64 4, .int .i64 5] 3)) v1.heap.size 40 #[.string ⟨#[97]⟩, .string a1]) := ((Blk.new _ _ _).alloc _).alloc _
        have b2 : Hid (Blk (((v1.alloc (.cells #[.string ⟨#[97]⟩, .string a1] 40)).alloc (.cells #[.int .i64 0, .int .i64 0, .string ⟨#[]⟩, .string a1, .string a1, .string a1, .string ⟨#[]⟩, .int .i64 0, .int .i64 0, .slice (some ⟨v1.heap.size, 0, none⟩) 1 1] 42)).alloc (.cells #[.int .i64 2, .int .i64 3, .int .i64 4, .int .i64 5] 3)) (v1.heap.size + 1) 42 #[.int .i64 0, .int .i64 0, .string ⟨#[]⟩, .string a1, .string a1, .string a1, .string ⟨#[]⟩, .int .i64 0, .int .i64 0, .slice (some ⟨v1.heap.size, 0, none⟩) 1 1]) := (Blk.new_ _ _ _ (by simp)).alloc _
        have b3 : Hid (Blk (((v1.alloc (.cells #[.string ⟨#[97]⟩, .string a1] 40)).alloc (.cells #[.int .i64 0, .int .i64 0, .string ⟨#[]⟩, .string a1, .string a1, .string a1, .string ⟨#[]⟩, .int .i64 0, .int .i64 0, .slice (some ⟨v1.heap.size, 0, none⟩) 1 1] 42)).alloc (.cells #[.int .i64 2, .int .i64 3, .int .i64 4, .int .i64 5] 3)) (v1.heap.size + 1 + 1) 3 #[.int .i64 2, .int .i64 3, .int .i64 4, .int .i64 5]) := Blk.new_ _ _ _ (by simp)
        go_wp2_with fail
        generalize ((v1.alloc (.cells #[.string ⟨#[97]⟩, .string a1] 40)).alloc (.cells #[.int .i64 0, .int .i64 0, .string ⟨#[]⟩, .string a1, .string a1, .string a1, .string ⟨#[]⟩, .int .i64 0, .int .i64 0, .slice (some ⟨v1.heap.size, 0, none⟩) 1 1] 42)).alloc (.cells #[.int .i64 2, .int .i64 3, .int .i64 4, .int .i64 5] 3) = w4 at *
        go_loopw [8] (fun s8 wr => ∃ i : Nat, i ≤ 4 ∧ s8 = .int .i64 i ∧ Hid (Blk wr v1.heap.size 40 #[.string ⟨#[97]⟩, .string a1]) ∧ Hid (Blk wr (v1.heap.size + 1) 42 #[.int .i64 0, .int .i64 0, .string ⟨#[]⟩, .string a1, .string a1, .string a1, .string ⟨#[]⟩, .int .i64 0, .int .i64 0, .slice (some ⟨v1.heap.size, 0, none⟩) 1 1]) ∧ Hid (Blk wr (v1.heap.size + 1 + 1) 3 #[.int .i64 2, .int .i64 3, .int .i64 4, .int .i64 5]) ∧ Hid (Below w.heap.size w wr)) (fun s8 _ => 4 - (intOf s8).toNat)
        case atStart => exact ⟨0, by omega, rfl, b1, b2, b3, kA⟩
        case round =>
          clear b1 b2 b3 kA
          obtain ⟨i, hi, rfl, b1, b2, b3, kA⟩ := hrel
          have c0 := b2.out.cell 0
          have c1 := b2.out.cell 1
          have c2 := b2.out.cell 2
          have c3 := b2.out.cell 3
          have c4 := b2.out.cell 4
          have c5 := b2.out.cell 5
          have c6 := b2.out.cell 6
          have c7 := b2.out.cell 7
          have c8 := b2.out.cell 8
          have c9 := b2.out.cell 9
          have d0 := b3.out.cell 0
          have d1 := b3.out.cell 1
          have d2 := b3.out.cell 2
          have d3 := b3.out.cell 3
          simp only [List.getElem?_toArray, List.getElem?_cons_zero, List.getElem?_cons_succ] at c0 c1 c2 c3 c4 c5 c6 c7 c8 c9 d0 d1 d2 d3
          rcases (by omega : i = 4 ∨ i = 0 ∨ i = 1 ∨ i = 2 ∨ i = 3) with rfl | rfl | rfl | rfl | rfl
          · have z1 := kA.out.alloc kA.out.size (.cells #[.string ⟨#[75]⟩, .string a1] 40)
            have z2 := z1.alloc z1.size (.cells #[.string a1] 9)
            have z3 := Lib.hid (z2.alloc z2.size (.cells #[.slice (some ⟨wr.heap.size, 0, none⟩) 1 1, .slice (some ⟨wr.heap.size + 1, 0, none⟩) 1 1, .slice none 0 0, .slice none 0 0, .slice none 0 0, .string ⟨#[]⟩, .int .i64 0, .string ⟨#[]⟩, .string ⟨#[]⟩, .int .i64 0, .string a1, .int .i64 0, .int .i64 0, .slice none 0 0] 28))
            have f1 : Hid (Blk (((wr.alloc (.cells #[.string ⟨#[75]⟩, .string a1] 40)).alloc (.cells #[.string a1] 9)).alloc (.cells #[.slice (some ⟨wr.heap.size, 0, none⟩) 1 1, .slice (some ⟨wr.heap.size + 1, 0, none⟩) 1 1, .slice none 0 0, .slice none 0 0, .slice none 0 0, .string ⟨#[]⟩, .int .i64 0, .string ⟨#[]⟩, .string ⟨#[]⟩, .int .i64 0, .string a1, .int .i64 0, .int .i64 0, .slice none 0 0] 28)) wr.heap.size 40 #[.string ⟨#[75]⟩, .string a1]) := ((Blk.new _ _ _).alloc _).alloc _
            have f2 : Hid (Blk (((wr.alloc (.cells #[.string ⟨#[75]⟩, .string a1] 40)).alloc (.cells #[.string a1] 9)).alloc (.cells #[.slice (some ⟨wr.heap.size, 0, none⟩) 1 1, .slice (some ⟨wr.heap.size + 1, 0, none⟩) 1 1, .slice none 0 0, .slice none 0 0, .slice none 0 0, .string ⟨#[]⟩, .int .i64 0, .string ⟨#[]⟩, .string ⟨#[]⟩, .int .i64 0, .string a1, .int .i64 0, .int .i64 0, .slice none 0 0] 28)) (wr.heap.size + 1) 9 #[.string a1]) := (Blk.new_ _ _ _ (by simp)).alloc _
            have f3 : Hid (Blk (((wr.alloc (.cells #[.string ⟨#[75]⟩, .string a1] 40)).alloc (.cells #[.string a1] 9)).alloc (.cells #[.slice (some ⟨wr.heap.size, 0, none⟩) 1 1, .slice (some ⟨wr.heap.size + 1, 0, none⟩) 1 1, .slice none 0 0, .slice none 0 0, .slice none 0 0, .string ⟨#[]⟩, .int .i64 0, .string ⟨#[]⟩, .string ⟨#[]⟩, .int .i64 0, .string a1, .int .i64 0, .int .i64 0, .slice none 0 0] 28)) (wr.heap.size + 1 + 1) 28 #[.slice (some ⟨wr.heap.size, 0, none⟩) 1 1, .slice (some ⟨wr.heap.size + 1, 0, none⟩) 1 1, .slice none 0 0, .slice none 0 0, .slice none 0 0, .string ⟨#[]⟩, .int .i64 0, .string ⟨#[]⟩, .string ⟨#[]⟩, .int .i64 0, .string a1, .int .i64 0, .int .i64 0, .slice none 0 0]) := Blk.new_ _ _ _ (by simp)
            clear z1 z2 c0 c1 c2 c3 c4 c5 c6 c7 c8 c9 d0 d1 d2 d3 b1 b2 b3 kA
            have g0 := Lib.hid (hF'.out 13 ⟨#[]⟩ ⟨#[]⟩ wr.heap.size (wr.heap.size + 1) _ (.inl ⟨rfl, rfl⟩) (by decide) f1.out f2.out)
            go_wp2_with fail
            generalize ((wr.alloc (.cells #[.string ⟨#[75]⟩, .string a1] 40)).alloc (.cells #[.string a1] 9)).alloc (.cells #[.slice (some ⟨wr.heap.size, 0, none⟩) 1 1, .slice (some ⟨wr.heap.size + 1, 0, none⟩) 1 1, .slice none 0 0, .slice none 0 0, .slice none 0 0, .string ⟨#[]⟩, .int .i64 0, .string ⟨#[]⟩, .string ⟨#[]⟩, .int .i64 0, .string a1, .int .i64 0, .int .i64 0, .slice none 0 0] 28) = y0 at *
            refine g0.out.mono ?_
            rintro e y1 ⟨rfl, hy⟩
            have z4 := Lib.hid (z3.out.trans (hy.mono z3.out.size))
            have e0a := Lib.hid (f1.out.below hy f1.out.lt)
            have e0b := Lib.hid (f2.out.below hy f2.out.lt)
            have e0c := Lib.hid (f3.out.below hy f3.out.lt)
            clear hy g0 z3 f1 f2 f3
            have x0 := e0c.out.cell 0
            have x1 := e0c.out.cell 1
            have x2 := e0c.out.cell 2
            have x3 := e0c.out.cell 3
            have x4 := e0c.out.cell 4
            have x5 := e0c.out.cell 5
            have x6 := e0c.out.cell 6
            have x7 := e0c.out.cell 7
            have x8 := e0c.out.cell 8
            have x9 := e0c.out.cell 9
            have x10 := e0c.out.cell 10
            have x11 := e0c.out.cell 11
            have x12 := e0c.out.cell 12
            have x13 := e0c.out.cell 13
            simp only [List.getElem?_toArray, List.getElem?_cons_zero, List.getElem?_cons_succ] at x0 x1 x2 x3 x4 x5 x6 x7 x8 x9 x10 x11 x12 x13
            have g0 := Lib.hid (hF'.out 6 ⟨#[75]⟩ ⟨#[]⟩ wr.heap.size (wr.heap.size + 1) _ (.inr (.inl ⟨rfl, rfl⟩)) (by decide) e0a.out e0b.out)
            go_wp2_with fail
            refine g0.out.mono ?_
            rintro e y2 ⟨rfl, hy⟩
            have z5 := Lib.hid (z4.out.trans (hy.mono z4.out.size))
            have e1a := Lib.hid (e0a.out.below hy e0a.out.lt)
            have e1b := Lib.hid (e0b.out.below hy e0b.out.lt)
            have e1c := Lib.hid (e0c.out.below hy e0c.out.lt)
            clear hy g0 z4 e0a e0b e0c
            clear x0 x1 x2 x3 x4 x5 x6 x7 x8 x9 x10 x11 x12 x13
            have x0 := e1c.out.cell 0
            have x1 := e1c.out.cell 1
            have x2 := e1c.out.cell 2
            have x3 := e1c.out.cell 3
            have x4 := e1c.out.cell 4
            have x5 := e1c.out.cell 5
            have x6 := e1c.out.cell 6
            have x7 := e1c.out.cell 7
            have x8 := e1c.out.cell 8
            have x9 := e1c.out.cell 9
            have x10 := e1c.out.cell 10
            have x11 := e1c.out.cell 11
            have x12 := e1c.out.cell 12
            have x13 := e1c.out.cell 13
            simp only [List.getElem?_toArray, List.getElem?_cons_zero, List.getElem?_cons_succ] at x0 x1 x2 x3 x4 x5 x6 x7 x8 x9 x10 x11 x12 x13
            have g0 := Lib.hid (hF'.out 7 ⟨#[]⟩ ⟨#[]⟩ wr.heap.size (wr.heap.size + 1) _ (.inr (.inr (.inl ⟨rfl, rfl⟩))) (by decide) e1a.out e1b.out)
            go_wp2_with fail
            refine g0.out.mono ?_
            rintro e y3 ⟨rfl, hy⟩
            have z6 := Lib.hid (z5.out.trans (hy.mono z5.out.size))
            have e2a := Lib.hid (e1a.out.below hy e1a.out.lt)
            have e2b := Lib.hid (e1b.out.below hy e1b.out.lt)
            have e2c := Lib.hid (e1c.out.below hy e1c.out.lt)
            clear hy g0 z5 e1a e1b e1c
            clear x0 x1 x2 x3 x4 x5 x6 x7 x8 x9 x10 x11 x12 x13
            have x0 := e2c.out.cell 0
            have x1 := e2c.out.cell 1
            have x2 := e2c.out.cell 2
            have x3 := e2c.out.cell 3
            have x4 := e2c.out.cell 4
            have x5 := e2c.out.cell 5
            have x6 := e2c.out.cell 6
            have x7 := e2c.out.cell 7
            have x8 := e2c.out.cell 8
            have x9 := e2c.out.cell 9
            have x10 := e2c.out.cell 10
            have x11 := e2c.out.cell 11
            have x12 := e2c.out.cell 12
            have x13 := e2c.out.cell 13
            simp only [List.getElem?_toArray, List.getElem?_cons_zero, List.getElem?_cons_succ] at x0 x1 x2 x3 x4 x5 x6 x7 x8 x9 x10 x11 x12 x13
            have g0 := Lib.hid (hF'.out 1 ⟨#[]⟩ a1 wr.heap.size (wr.heap.size + 1) _ (.inr (.inr (.inr ⟨rfl, rfl, rfl⟩))) s1 e2a.out e2b.out)
            go_wp2_with fail
            refine g0.out.mono ?_
            rintro e y4 ⟨rfl, hy⟩
            have z7 := Lib.hid (z6.out.trans (hy.mono z6.out.size))
            clear hy g0 z6 e2a e2b e2c
            go_wp2_with fail
            refine (hK'.out _).mono ?_
            rintro e y9 ⟨rfl, hy⟩
            have z9 := Lib.hid (z7.out.trans (hy.mono z7.out.size))
            go_wp2_with fail
            go_ret
            exact ⟨rfl, z9.out⟩
          · have hd1 := Lib.hid (hD'.out 2 v1.heap.size wr (by omega) b1.out)
            have hd2 := Lib.hid (hD'.out 2 v1.heap.size wr.drew (by omega) b1.out.drew)
            go_upto_region 9 with fail
            have hS0 : Below w.heap.size w wr ∧ Blk wr v1.heap.size 40 #[.string ⟨#[97]⟩, .string a1] ∧ Blk wr (v1.heap.size + 1) 42 #[.int .i64 0, .int .i64 0, .string ⟨#[]⟩, .string a1, .string a1, .string a1, .string ⟨#[]⟩, .int .i64 0, .int .i64 0, .slice (some ⟨v1.heap.size, 0, none⟩) 1 1] ∧ Blk wr (v1.heap.size + 1 + 1) 3 #[.int .i64 2, .int .i64 3, .int .i64 4, .int .i64 5] ∧ wr.cell? ⟨v1.heap.size + 1, 0, none⟩ = some (.int .i64 0) ∧ wr.cell? ⟨v1.heap.size + 1, 1, none⟩ = some (.int .i64 0) ∧ wr.cell? ⟨v1.heap.size + 1, 2, none⟩ = some (.string ⟨#[]⟩) ∧ wr.cell? ⟨v1.heap.size + 1, 3, none⟩ = some (.string a1) ∧ wr.cell? ⟨v1.heap.size + 1, 4, none⟩ = some (.string a1) ∧ wr.cell? ⟨v1.heap.size + 1, 5, none⟩ = some (.string a1) ∧ wr.cell? ⟨v1.heap.size + 1, 6, none⟩ = some (.string ⟨#[]⟩) ∧ wr.cell? ⟨v1.heap.size + 1, 7, none⟩ = some (.int .i64 0) ∧ wr.cell? ⟨v1.heap.size + 1, 8, none⟩ = some (.int .i64 0) ∧ wr.cell? ⟨v1.heap.size + 1, 9, none⟩ = some (.slice (some ⟨v1.heap.size, 0, none⟩) 1 1) ∧ wr.cell? ⟨v1.heap.size + 1 + 1, 0, none⟩ = some (.int .i64 2) := ⟨kA.out, b1.out, b2.out, b3.out, c0, c1, c2, c3, c4, c5, c6, c7, c8, c9, d0⟩
            have hS1 : Below w.heap.size w wr.drew ∧ Blk wr.drew v1.heap.size 40 #[.string ⟨#[97]⟩, .string a1] ∧ Blk wr.drew (v1.heap.size + 1) 42 #[.int .i64 0, .int .i64 0, .string ⟨#[]⟩, .string a1, .string a1, .string a1, .string ⟨#[]⟩, .int .i64 0, .int .i64 0, .slice (some ⟨v1.heap.size, 0, none⟩) 1 1] ∧ Blk wr.drew (v1.heap.size + 1 + 1) 3 #[.int .i64 2, .int .i64 3, .int .i64 4, .int .i64 5] ∧ wr.drew.cell? ⟨v1.heap.size + 1, 0, none⟩ = some (.int .i64 0) ∧ wr.drew.cell? ⟨v1.heap.size + 1, 1, none⟩ = some (.int .i64 0) ∧ wr.drew.cell? ⟨v1.heap.size + 1, 2, none⟩ = some (.string ⟨#[]⟩) ∧ wr.drew.cell? ⟨v1.heap.size + 1, 3, none⟩ = some (.string a1) ∧ wr.drew.cell? ⟨v1.heap.size + 1, 4, none⟩ = some (.string a1) ∧ wr.drew.cell? ⟨v1.heap.size + 1, 5, none⟩ = some (.string a1) ∧ wr.drew.cell? ⟨v1.heap.size + 1, 6, none⟩ = some (.string ⟨#[]⟩) ∧ wr.drew.cell? ⟨v1.heap.size + 1, 7, none⟩ = some (.int .i64 0) ∧ wr.drew.cell? ⟨v1.heap.size + 1, 8, none⟩ = some (.int .i64 0) ∧ wr.drew.cell? ⟨v1.heap.size + 1, 9, none⟩ = some (.slice (some ⟨v1.heap.size, 0, none⟩) 1 1) ∧ wr.drew.cell? ⟨v1.heap.size + 1 + 1, 0, none⟩ = some (.int .i64 2) := ⟨Below.drew kA.out, b1.out.drew, b2.out.drew, b3.out.drew, c0, c1, c2, c3, c4, c5, c6, c7, c8, c9, d0⟩
            have hk : Hid (∀ y, Below wr.drew.heap.size wr.drew y → Below w.heap.size w y ∧ Blk y v1.heap.size 40 #[.string ⟨#[97]⟩, .string a1] ∧ Blk y (v1.heap.size + 1) 42 #[.int .i64 0, .int .i64 0, .string ⟨#[]⟩, .string a1, .string a1, .string a1, .string ⟨#[]⟩, .int .i64 0, .int .i64 0, .slice (some ⟨v1.heap.size, 0, none⟩) 1 1] ∧ Blk y (v1.heap.size + 1 + 1) 3 #[.int .i64 2, .int .i64 3, .int .i64 4, .int .i64 5] ∧ y.cell? ⟨v1.heap.size + 1, 0, none⟩ = some (.int .i64 0) ∧ y.cell? ⟨v1.heap.size + 1, 1, none⟩ = some (.int .i64 0) ∧ y.cell? ⟨v1.heap.size + 1, 2, none⟩ = some (.string ⟨#[]⟩) ∧ y.cell? ⟨v1.heap.size + 1, 3, none⟩ = some (.string a1) ∧ y.cell? ⟨v1.heap.size + 1, 4, none⟩ = some (.string a1) ∧ y.cell? ⟨v1.heap.size + 1, 5, none⟩ = some (.string a1) ∧ y.cell? ⟨v1.heap.size + 1, 6, none⟩ = some (.string ⟨#[]⟩) ∧ y.cell? ⟨v1.heap.size + 1, 7, none⟩ = some (.int .i64 0) ∧ y.cell? ⟨v1.heap.size + 1, 8, none⟩ = some (.int .i64 0) ∧ y.cell? ⟨v1.heap.size + 1, 9, none⟩ = some (.slice (some ⟨v1.heap.size, 0, none⟩) 1 1) ∧ y.cell? ⟨v1.heap.size + 1 + 1, 0, none⟩ = some (.int .i64 2)) := fun y h => by
              have e1 := b1.out.drew.below h b1.out.drew.lt
              have e2 := b2.out.drew.below h b2.out.drew.lt
              have e3 := b3.out.drew.below h b3.out.drew.lt
              exact ⟨(Below.drew kA.out).trans (h.mono (Below.drew kA.out).size), e1, e2, e3, (e2.cell 0).trans rfl, (e2.cell 1).trans rfl, (e2.cell 2).trans rfl, (e2.cell 3).trans rfl, (e2.cell 4).trans rfl, (e2.cell 5).trans rfl, (e2.cell 6).trans rfl, (e2.cell 7).trans rfl, (e2.cell 8).trans rfl, (e2.cell 9).trans rfl, (e3.cell 0).trans rfl⟩
            (first | (go_must (go_region_held3 (fun w' => Below w.heap.size w w' ∧ Blk w' v1.heap.size 40 #[.string ⟨#[97]⟩, .string a1] ∧ Blk w' (v1.heap.size + 1) 42 #[.int .i64 0, .int .i64 0, .string ⟨#[]⟩, .string a1, .string a1, .string a1, .string ⟨#[]⟩, .int .i64 0, .int .i64 0, .slice (some ⟨v1.heap.size, 0, none⟩) 1 1] ∧ Blk w' (v1.heap.size + 1 + 1) 3 #[.int .i64 2, .int .i64 3, .int .i64 4, .int .i64 5] ∧ w'.cell? ⟨v1.heap.size + 1, 0, none⟩ = some (.int .i64 0) ∧ w'.cell? ⟨v1.heap.size + 1, 1, none⟩ = some (.int .i64 0) ∧ w'.cell? ⟨v1.heap.size + 1, 2, none⟩ = some (.string ⟨#[]⟩) ∧ w'.cell? ⟨v1.heap.size + 1, 3, none⟩ = some (.string a1) ∧ w'.cell? ⟨v1.heap.size + 1, 4, none⟩ = some (.string a1) ∧ w'.cell? ⟨v1.heap.size + 1, 5, none⟩ = some (.string a1) ∧ w'.cell? ⟨v1.heap.size + 1, 6, none⟩ = some (.string ⟨#[]⟩) ∧ w'.cell? ⟨v1.heap.size + 1, 7, none⟩ = some (.int .i64 0) ∧ w'.cell? ⟨v1.heap.size + 1, 8, none⟩ = some (.int .i64 0) ∧ w'.cell? ⟨v1.heap.size + 1, 9, none⟩ = some (.slice (some ⟨v1.heap.size, 0, none⟩) 1 1) ∧ w'.cell? ⟨v1.heap.size + 1 + 1, 0, none⟩ = some (.int .i64 2))
              ((first | exact hS0 | exact hS1 | exact hk.out _ hy1))
              (first | (go_at_call 14; first | refine hd1.out.mono ?_ | refine hd2.out.mono ?_; rintro e y1 ⟨rfl, hy1⟩) | fail))) | fail)
            have hY := hk.out _ hy1
            have q1 := Lib.hid hY.2.1
            have q2 := Lib.hid hY.2.2.1
            have q3 := Lib.hid hY.2.2.2.1
            have q4 := Lib.hid hY.1
            clear hy1 hY hk hS0 hS1 hd1 hd2 b1 b2 b3 kA c0 c1 c2 c3 c4 c5 c6 c7 c8 c9 d0 d1 d2 d3
            go_wp2_with fail
            go_roundw
            case rel => exact ⟨1, by omega, by go_num, q1, q2, q3, q4⟩
            case measure => simp [intOf]
          · have hd1 := Lib.hid (hD'.out 3 v1.heap.size wr (by omega) b1.out)
            have hd2 := Lib.hid (hD'.out 3 v1.heap.size wr.drew (by omega) b1.out.drew)
            go_upto_region 9 with fail
            have hS0 : Below w.heap.size w wr ∧ Blk wr v1.heap.size 40 #[.string ⟨#[97]⟩, .string a1] ∧ Blk wr (v1.heap.size + 1) 42 #[.int .i64 0, .int .i64 0, .string ⟨#[]⟩, .string a1, .string a1, .string a1, .string ⟨#[]⟩, .int .i64 0, .int .i64 0, .slice (some ⟨v1.heap.size, 0, none⟩) 1 1] ∧ Blk wr (v1.heap.size + 1 + 1) 3 #[.int .i64 2, .int .i64 3, .int .i64 4, .int .i64 5] ∧ wr.cell? ⟨v1.heap.size + 1, 0, none⟩ = some (.int .i64 0) ∧ wr.cell? ⟨v1.heap.size + 1, 1, none⟩ = some (.int .i64 0) ∧ wr.cell? ⟨v1.heap.size + 1, 2, none⟩ = some (.string ⟨#[]⟩) ∧ wr.cell? ⟨v1.heap.size + 1, 3, none⟩ = some (.string a1) ∧ wr.cell? ⟨v1.heap.size + 1, 4, none⟩ = some (.string a1) ∧ wr.cell? ⟨v1.heap.size + 1, 5, none⟩ = some (.string a1) ∧ wr.cell? ⟨v1.heap.size + 1, 6, none⟩ = some (.string ⟨#[]⟩) ∧ wr.cell? ⟨v1.heap.size + 1, 7, none⟩ = some (.int .i64 0) ∧ wr.cell? ⟨v1.heap.size + 1, 8, none⟩ = some (.int .i64 0) ∧ wr.cell? ⟨v1.heap.size + 1, 9, none⟩ = some (.slice (some ⟨v1.heap.size, 0, none⟩) 1 1) ∧ wr.cell? ⟨v1.heap.size + 1 + 1, 1, none⟩ = some (.int .i64 3) := ⟨kA.out, b1.out, b2.out, b3.out, c0, c1, c2, c3, c4, c5, c6, c7, c8, c9, d1⟩
            have hS1 : Below w.heap.size w wr.drew ∧ Blk wr.drew v1.heap.size 40 #[.string ⟨#[97]⟩, .string a1] ∧ Blk wr.drew (v1.heap.size + 1) 42 #[.int .i64 0, .int .i64 0, .string ⟨#[]⟩, .string a1, .string a1, .string a1, .string ⟨#[]⟩, .int .i64 0, .int .i64 0, .slice (some ⟨v1.heap.size, 0, none⟩) 1 1] ∧ Blk wr.drew (v1.heap.size + 1 + 1) 3 #[.int .i64 2, .int .i64 3, .int .i64 4, .int .i64 5] ∧ wr.drew.cell? ⟨v1.heap.size + 1, 0, none⟩ = some (.int .i64 0) ∧ wr.drew.cell? ⟨v1.heap.size + 1, 1, none⟩ = some (.int .i64 0) ∧ wr.drew.cell? ⟨v1.heap.size + 1, 2, none⟩ = some (.string ⟨#[]⟩) ∧ wr.drew.cell? ⟨v1.heap.size + 1, 3, none⟩ = some (.string a1) ∧ wr.drew.cell? ⟨v1.heap.size + 1, 4, none⟩ = some (.string a1) ∧ wr.drew.cell? ⟨v1.heap.size + 1, 5, none⟩ = some (.string a1) ∧ wr.drew.cell? ⟨v1.heap.size + 1, 6, none⟩ = some (.string ⟨#[]⟩) ∧ wr.drew.cell? ⟨v1.heap.size + 1, 7, none⟩ = some (.int .i64 0) ∧ wr.drew.cell? ⟨v1.heap.size + 1, 8, none⟩ = some (.int .i64 0) ∧ wr.drew.cell? ⟨v1.heap.size + 1, 9, none⟩ = some (.slice (some ⟨v1.heap.size, 0, none⟩) 1 1) ∧ wr.drew.cell? ⟨v1.heap.size + 1 + 1, 1, none⟩ = some (.int .i64 3) := ⟨Below.drew kA.out, b1.out.drew, b2.out.drew, b3.out.drew, c0, c1, c2, c3, c4, c5, c6, c7, c8, c9, d1⟩
            have hk : Hid (∀ y, Below wr.drew.heap.size wr.drew y → Below w.heap.size w y ∧ Blk y v1.heap.size 40 #[.string ⟨#[97]⟩, .string a1] ∧ Blk y (v1.heap.size + 1) 42 #[.int .i64 0, .int .i64 0, .string ⟨#[]⟩, .string a1, .string a1, .string a1, .string ⟨#[]⟩, .int .i64 0, .int .i64 0, .slice (some ⟨v1.heap.size, 0, none⟩) 1 1] ∧ Blk y (v1.heap.size + 1 + 1) 3 #[.int .i64 2, .int .i64 3, .int .i64 4, .int .i64 5] ∧ y.cell? ⟨v1.heap.size + 1, 0, none⟩ = some (.int .i64 0) ∧ y.cell? ⟨v1.heap.size + 1, 1, none⟩ = some (.int .i64 0) ∧ y.cell? ⟨v1.heap.size + 1, 2, none⟩ = some (.string ⟨#[]⟩) ∧ y.cell? ⟨v1.heap.size + 1, 3, none⟩ = some (.string a1) ∧ y.cell? ⟨v1.heap.size + 1, 4, none⟩ = some (.string a1) ∧ y.cell? ⟨v1.heap.size + 1, 5, none⟩ = some (.string a1) ∧ y.cell? ⟨v1.heap.size + 1, 6, none⟩ = some (.string ⟨#[]⟩) ∧ y.cell? ⟨v1.heap.size + 1, 7, none⟩ = some (.int .i64 0) ∧ y.cell? ⟨v1.heap.size + 1, 8, none⟩ = some (.int .i64 0) ∧ y.cell? ⟨v1.heap.size + 1, 9, none⟩ = some (.slice (some ⟨v1.heap.size, 0, none⟩) 1 1) ∧ y.cell? ⟨v1.heap.size + 1 + 1, 1, none⟩ = some (.int .i64 3)) := fun y h => by
              have e1 := b1.out.drew.below h b1.out.drew.lt
              have e2 := b2.out.drew.below h b2.out.drew.lt
              have e3 := b3.out.drew.below h b3.out.drew.lt
              exact ⟨(Below.drew kA.out).trans (h.mono (Below.drew kA.out).size), e1, e2, e3, (e2.cell 0).trans rfl, (e2.cell 1).trans rfl, (e2.cell 2).trans rfl, (e2.cell 3).trans rfl, (e2.cell 4).trans rfl, (e2.cell 5).trans rfl, (e2.cell 6).trans rfl, (e2.cell 7).trans rfl, (e2.cell 8).trans rfl, (e2.cell 9).trans rfl, (e3.cell 1).trans rfl⟩
            (first | (go_must (go_region_held3 (fun w' => Below w.heap.size w w' ∧ Blk w' v1.heap.size 40 #[.string ⟨#[97]⟩, .string a1] ∧ Blk w' (v1.heap.size + 1) 42 #[.int .i64 0, .int .i64 0, .string ⟨#[]⟩, .string a1, .string a1, .string a1, .string ⟨#[]⟩, .int .i64 0, .int .i64 0, .slice (some ⟨v1.heap.size, 0, none⟩) 1 1] ∧ Blk w' (v1.heap.size + 1 + 1) 3 #[.int .i64 2, .int .i64 3, .int .i64 4, .int .i64 5] ∧ w'.cell? ⟨v1.heap.size + 1, 0, none⟩ = some (.int .i64 0) ∧ w'.cell? ⟨v1.heap.size + 1, 1, none⟩ = some (.int .i64 0) ∧ w'.cell? ⟨v1.heap.size + 1, 2, none⟩ = some (.string ⟨#[]⟩) ∧ w'.cell? ⟨v1.heap.size + 1, 3, none⟩ = some (.string a1) ∧ w'.cell? ⟨v1.heap.size + 1, 4, none⟩ = some (.string a1) ∧ w'.cell? ⟨v1.heap.size + 1, 5, none⟩ = some (.string a1) ∧ w'.cell? ⟨v1.heap.size + 1, 6, none⟩ = some (.string ⟨#[]⟩) ∧ w'.cell? ⟨v1.heap.size + 1, 7, none⟩ = some (.int .i64 0) ∧ w'.cell? ⟨v1.heap.size + 1, 8, none⟩ = some (.int .i64 0) ∧ w'.cell? ⟨v1.heap.size + 1, 9, none⟩ = some (.slice (some ⟨v1.heap.size, 0, none⟩) 1 1) ∧ w'.cell? ⟨v1.heap.size + 1 + 1, 1, none⟩ = some (.int .i64 3))
              ((first | exact hS0 | exact hS1 | exact hk.out _ hy1))
              (first | (go_at_call 14; first | refine hd1.out.mono ?_ | refine hd2.out.mono ?_; rintro e y1 ⟨rfl, hy1⟩) | fail))) | fail)
            have hY := hk.out _ hy1
            have q1 := Lib.hid hY.2.1
            have q2 := Lib.hid hY.2.2.1
            have q3 := Lib.hid hY.2.2.2.1
            have q4 := Lib.hid hY.1
            clear hy1 hY hk hS0 hS1 hd1 hd2 b1 b2 b3 kA c0 c1 c2 c3 c4 c5 c6 c7 c8 c9 d0 d1 d2 d3
            go_wp2_with fail
            go_roundw
            case rel => exact ⟨2, by omega, by go_num, q1, q2, q3, q4⟩
            case measure => simp [intOf]
          · have hd1 := Lib.hid (hD'.out 4 v1.heap.size wr (by omega) b1.out)
            have hd2 := Lib.hid (hD'.out 4 v1.heap.size wr.drew (by omega) b1.out.drew)
            go_upto_region 9 with fail
            have hS0 : Below w.heap.size w wr ∧ Blk wr v1.heap.size 40 #[.string ⟨#[97]⟩, .string a1] ∧ Blk wr (v1.heap.size + 1) 42 #[.int .i64 0, .int .i64 0, .string ⟨#[]⟩, .string a1, .string a1, .string a1, .string ⟨#[]⟩, .int .i64 0, .int .i64 0, .slice (some ⟨v1.heap.size, 0, none⟩) 1 1] ∧ Blk wr (v1.heap.size + 1 + 1) 3 #[.int .i64 2, .int .i64 3, .int .i64 4, .int .i64 5] ∧ wr.cell? ⟨v1.heap.size + 1, 0, none⟩ = some (.int .i64 0) ∧ wr.cell? ⟨v1.heap.size + 1, 1, none⟩ = some (.int .i64 0) ∧ wr.cell? ⟨v1.heap.size + 1, 2, none⟩ = some (.string ⟨#[]⟩) ∧ wr.cell? ⟨v1.heap.size + 1, 3, none⟩ = some (.string a1) ∧ wr.cell? ⟨v1.heap.size + 1, 4, none⟩ = some (.string a1) ∧ wr.cell? ⟨v1.heap.size + 1, 5, none⟩ = some (.string a1) ∧ wr.cell? ⟨v1.heap.size + 1, 6, none⟩ = some (.string ⟨#[]⟩) ∧ wr.cell? ⟨v1.heap.size + 1, 7, none⟩ = some (.int .i64 0) ∧ wr.cell? ⟨v1.heap.size + 1, 8, none⟩ = some (.int .i64 0) ∧ wr.cell? ⟨v1.heap.size + 1, 9, none⟩ = some (.slice (some ⟨v1.heap.size, 0, none⟩) 1 1) ∧ wr.cell? ⟨v1.heap.size + 1 + 1, 2, none⟩ = some (.int .i64 4) := ⟨kA.out, b1.out, b2.out, b3.out, c0, c1, c2, c3, c4, c5, c6, c7, c8, c9, d2⟩
            have hS1 : Below w.heap.size w wr.drew ∧ Blk wr.drew v1.heap.size 40 #[.string ⟨#[97]⟩, .string a1] ∧ Blk wr.drew (v1.heap.size + 1) 42 #[.int .i64 0, .int .i64 0, .string ⟨#[]⟩, .string a1, .string a1, .string a1, .string ⟨#[]⟩, .int .i64 0, .int .i64 0, .slice (some ⟨v1.heap.size, 0, none⟩) 1 1] ∧ Blk wr.drew (v1.heap.size + 1 + 1) 3 #[.int .i64 2, .int .i64 3, .int .i64 4, .int .i64 5] ∧ wr.drew.cell? ⟨v1.heap.size + 1, 0, none⟩ = some (.int .i64 0) ∧ wr.drew.cell? ⟨v1.heap.size + 1, 1, none⟩ = some (.int .i64 0) ∧ wr.drew.cell? ⟨v1.heap.size + 1, 2, none⟩ = some (.string ⟨#[]⟩) ∧ wr.drew.cell? ⟨v1.heap.size + 1, 3, none⟩ = some (.string a1) ∧ wr.drew.cell? ⟨v1.heap.size + 1, 4, none⟩ = some (.string a1) ∧ wr.drew.cell? ⟨v1.heap.size + 1, 5, none⟩ = some (.string a1) ∧ wr.drew.cell? ⟨v1.heap.size + 1, 6, none⟩ = some (.string ⟨#[]⟩) ∧ wr.drew.cell? ⟨v1.heap.size + 1, 7, none⟩ = some (.int .i64 0) ∧ wr.drew.cell? ⟨v1.heap.size + 1, 8, none⟩ = some (.int .i64 0) ∧ wr.drew.cell? ⟨v1.heap.size + 1, 9, none⟩ = some (.slice (some ⟨v1.heap.size, 0, none⟩) 1 1) ∧ wr.drew.cell? ⟨v1.heap.size + 1 + 1, 2, none⟩ = some (.int .i64 4) := ⟨Below.drew kA.out, b1.out.drew, b2.out.drew, b3.out.drew, c0, c1, c2, c3, c4, c5, c6, c7, c8, c9, d2⟩
            have hk : Hid (∀ y, Below wr.drew.heap.size wr.drew y → Below w.heap.size w y ∧ Blk y v1.heap.size 40 #[.string ⟨#[97]⟩, .string a1] ∧ Blk y (v1.heap.size + 1) 42 #[.int .i64 0, .int .i64 0, .string ⟨#[]⟩, .string a1, .string a1, .string a1, .string ⟨#[]⟩, .int .i64 0, .int .i64 0, .slice (some ⟨v1.heap.size, 0, none⟩) 1 1] ∧ Blk y (v1.heap.size + 1 + 1) 3 #[.int .i64 2, .int .i64 3, .int .i64 4, .int .i64 5] ∧ y.cell? ⟨v1.heap.size + 1, 0, none⟩ = some (.int .i64 0) ∧ y.cell? ⟨v1.heap.size + 1, 1, none⟩ = some (.int .i64 0) ∧ y.cell? ⟨v1.heap.size + 1, 2, none⟩ = some (.string ⟨#[]⟩) ∧ y.cell? ⟨v1.heap.size + 1, 3, none⟩ = some (.string a1) ∧ y.cell? ⟨v1.heap.size + 1, 4, none⟩ = some (.string a1) ∧ y.cell? ⟨v1.heap.size + 1, 5, none⟩ = some (.string a1) ∧ y.cell? ⟨v1.heap.size + 1, 6, none⟩ = some (.string ⟨#[]⟩) ∧ y.cell? ⟨v1.heap.size + 1, 7, none⟩ = some (.int .i64 0) ∧ y.cell? ⟨v1.heap.size + 1, 8, none⟩ = some (.int .i64 0) ∧ y.cell? ⟨v1.heap.size + 1, 9, none⟩ = some (.slice (some ⟨v1.heap.size, 0, none⟩) 1 1) ∧ y.cell? ⟨v1.heap.size + 1 + 1, 2, none⟩ = some (.int .i64 4)) := fun y h => by
              have e1 := b1.out.drew.below h b1.out.drew.lt
              have e2 := b2.out.drew.below h b2.out.drew.lt
              have e3 := b3.out.drew.below h b3.out.drew.lt
              exact ⟨(Below.drew kA.out).trans (h.mono (Below.drew kA.out).size), e1, e2, e3, (e2.cell 0).trans rfl, (e2.cell 1).trans rfl, (e2.cell 2).trans rfl, (e2.cell 3).trans rfl, (e2.cell 4).trans rfl, (e2.cell 5).trans rfl, (e2.cell 6).trans rfl, (e2.cell 7).trans rfl, (e2.cell 8).trans rfl, (e2.cell 9).trans rfl, (e3.cell 2).trans rfl⟩
            (first | (go_must (go_region_held3 (fun w' => Below w.heap.size w w' ∧ Blk w' v1.heap.size 40 #[.string ⟨#[97]⟩, .string a1] ∧ Blk w' (v1.heap.size + 1) 42 #[.int .i64 0, .int .i64 0, .string ⟨#[]⟩, .string a1, .string a1, .string a1, .string ⟨#[]⟩, .int .i64 0, .int .i64 0, .slice (some ⟨v1.heap.size, 0, none⟩) 1 1] ∧ Blk w' (v1.heap.size + 1 + 1) 3 #[.int .i64 2, .int .i64 3, .int .i64 4, .int .i64 5] ∧ w'.cell? ⟨v1.heap.size + 1, 0, none⟩ = some (.int .i64 0) ∧ w'.cell? ⟨v1.heap.size + 1, 1, none⟩ = some (.int .i64 0) ∧ w'.cell? ⟨v1.heap.size + 1, 2, none⟩ = some (.string ⟨#[]⟩) ∧ w'.cell? ⟨v1.heap.size + 1, 3, none⟩ = some (.string a1) ∧ w'.cell? ⟨v1.heap.size + 1, 4, none⟩ = some (.string a1) ∧ w'.cell? ⟨v1.heap.size + 1, 5, none⟩ = some (.string a1) ∧ w'.cell? ⟨v1.heap.size + 1, 6, none⟩ = some (.string ⟨#[]⟩) ∧ w'.cell? ⟨v1.heap.size + 1, 7, none⟩ = some (.int .i64 0) ∧ w'.cell? ⟨v1.heap.size + 1, 8, none⟩ = some (.int .i64 0) ∧ w'.cell? ⟨v1.heap.size + 1, 9, none⟩ = some (.slice (some ⟨v1.heap.size, 0, none⟩) 1 1) ∧ w'.cell? ⟨v1.heap.size + 1 + 1, 2, none⟩ = some (.int .i64 4))
              ((first | exact hS0 | exact hS1 | exact hk.out _ hy1))
              (first | (go_at_call 14; first | refine hd1.out.mono ?_ | refine hd2.out.mono ?_; rintro e y1 ⟨rfl, hy1⟩) | fail))) | fail)
            have hY := hk.out _ hy1
            have q1 := Lib.hid hY.2.1
            have q2 := Lib.hid hY.2.2.1
            have q3 := Lib.hid hY.2.2.2.1
            have q4 := Lib.hid hY.1
            clear hy1 hY hk hS0 hS1 hd1 hd2 b1 b2 b3 kA c0 c1 c2 c3 c4 c5 c6 c7 c8 c9 d0 d1 d2 d3
            go_wp2_with fail
            go_roundw
            case rel => exact ⟨3, by omega, by go_num, q1, q2, q3, q4⟩
            case measure => simp [intOf]
          · have hd1 := Lib.hid (hD'.out 5 v1.heap.size wr (by omega) b1.out)
            have hd2 := Lib.hid (hD'.out 5 v1.heap.size wr.drew (by omega) b1.out.drew)
            go_upto_region 9 with fail
            have hS0 : Below w.heap.size w wr ∧ Blk wr v1.heap.size 40 #[.string ⟨#[97]⟩, .string a1] ∧ Blk wr (v1.heap.size + 1) 42 #[.int .i64 0, .int .i64 0, .string ⟨#[]⟩, .string a1, .string a1, .string a1, .string ⟨#[]⟩, .int .i64 0, .int .i64 0, .slice (some ⟨v1.heap.size, 0, none⟩) 1 1] ∧ Blk wr (v1.heap.size + 1 + 1) 3 #[.int .i64 2, .int .i64 3, .int .i64 4, .int .i64 5] ∧ wr.cell? ⟨v1.heap.size + 1, 0, none⟩ = some (.int .i64 0) ∧ wr.cell? ⟨v1.heap.size + 1, 1, none⟩ = some (.int .i64 0) ∧ wr.cell? ⟨v1.heap.size + 1, 2, none⟩ = some (.string ⟨#[]⟩) ∧ wr.cell? ⟨v1.heap.size + 1, 3, none⟩ = some (.string a1) ∧ wr.cell? ⟨v1.heap.size + 1, 4, none⟩ = some (.string a1) ∧ wr.cell? ⟨v1.heap.size + 1, 5, none⟩ = some (.string a1) ∧ wr.cell? ⟨v1.heap.size + 1, 6, none⟩ = some (.string ⟨#[]⟩) ∧ wr.cell? ⟨v1.heap.size + 1, 7, none⟩ = some (.int .i64 0) ∧ wr.cell? ⟨v1.heap.size + 1, 8, none⟩ = some (.int .i64 0) ∧ wr.cell? ⟨v1.heap.size + 1, 9, none⟩ = some (.slice (some ⟨v1.heap.size, 0, none⟩) 1 1) ∧ wr.cell? ⟨v1.heap.size + 1 + 1, 3, none⟩ = some (.int .i64 5) := ⟨kA.out, b1.out, b2.out, b3.out, c0, c1, c2, c3, c4, c5, c6, c7, c8, c9, d3⟩
            have hS1 : Below w.heap.size w wr.drew ∧ Blk wr.drew v1.heap.size 40 #[.string ⟨#[97]⟩, .string a1] ∧ Blk wr.drew (v1.heap.size + 1) 42 #[.int .i64 0, .int .i64 0, .string ⟨#[]⟩, .string a1, .string a1, .string a1, .string ⟨#[]⟩, .int .i64 0, .int .i64 0, .slice (some ⟨v1.heap.size, 0, none⟩) 1 1] ∧ Blk wr.drew (v1.heap.size + 1 + 1) 3 #[.int .i64 2, .int .i64 3, .int .i64 4, .int .i64 5] ∧ wr.drew.cell? ⟨v1.heap.size + 1, 0, none⟩ = some (.int .i64 0) ∧ wr.drew.cell? ⟨v1.heap.size + 1, 1, none⟩ = some (.int .i64 0) ∧ wr.drew.cell? ⟨v1.heap.size + 1, 2, none⟩ = some (.string ⟨#[]⟩) ∧ wr.drew.cell? ⟨v1.heap.size + 1, 3, none⟩ = some (.string a1) ∧ wr.drew.cell? ⟨v1.heap.size + 1, 4, none⟩ = some (.string a1) ∧ wr.drew.cell? ⟨v1.heap.size + 1, 5, none⟩ = some (.string a1) ∧ wr.drew.cell? ⟨v1.heap.size + 1, 6, none⟩ = some (.string ⟨#[]⟩) ∧ wr.drew.cell? ⟨v1.heap.size + 1, 7, none⟩ = some (.int .i64 0) ∧ wr.drew.cell? ⟨v1.heap.size + 1, 8, none⟩ = some (.int .i64 0) ∧ wr.drew.cell? ⟨v1.heap.size + 1, 9, none⟩ = some (.slice (some ⟨v1.heap.size, 0, none⟩) 1 1) ∧ wr.drew.cell? ⟨v1.heap.size + 1 + 1, 3, none⟩ = some (.int .i64 5) := ⟨Below.drew kA.out, b1.out.drew, b2.out.drew, b3.out.drew, c0, c1, c2, c3, c4, c5, c6, c7, c8, c9, d3⟩
            have hk : Hid (∀ y, Below wr.drew.heap.size wr.drew y → Below w.heap.size w y ∧ Blk y v1.heap.size 40 #[.string ⟨#[97]⟩, .string a1] ∧ Blk y (v1.heap.size + 1) 42 #[.int .i64 0, .int .i64 0, .string ⟨#[]⟩, .string a1, .string a1, .string a1, .string ⟨#[]⟩, .int .i64 0, .int .i64 0, .slice (some ⟨v1.heap.size, 0, none⟩) 1 1] ∧ Blk y (v1.heap.size + 1 + 1) 3 #[.int .i64 2, .int .i64 3, .int .i64 4, .int .i64 5] ∧ y.cell? ⟨v1.heap.size + 1, 0, none⟩ = some (.int .i64 0) ∧ y.cell? ⟨v1.heap.size + 1, 1, none⟩ = some (.int .i64 0) ∧ y.cell? ⟨v1.heap.size + 1, 2, none⟩ = some (.string ⟨#[]⟩) ∧ y.cell? ⟨v1.heap.size + 1, 3, none⟩ = some (.string a1) ∧ y.cell? ⟨v1.heap.size + 1, 4, none⟩ = some (.string a1) ∧ y.cell? ⟨v1.heap.size + 1, 5, none⟩ = some (.string a1) ∧ y.cell? ⟨v1.heap.size + 1, 6, none⟩ = some (.string ⟨#[]⟩) ∧ y.cell? ⟨v1.heap.size + 1, 7, none⟩ = some (.int .i64 0) ∧ y.cell? ⟨v1.heap.size + 1, 8, none⟩ = some (.int .i64 0) ∧ y.cell? ⟨v1.heap.size + 1, 9, none⟩ = some (.slice (some ⟨v1.heap.size, 0, none⟩) 1 1) ∧ y.cell? ⟨v1.heap.size + 1 + 1, 3, none⟩ = some (.int .i64 5)) := fun y h => by
              have e1 := b1.out.drew.below h b1.out.drew.lt
              have e2 := b2.out.drew.below h b2.out.drew.lt
              have e3 := b3.out.drew.below h b3.out.drew.lt
              exact ⟨(Below.drew kA.out).trans (h.mono (Below.drew kA.out).size), e1, e2, e3, (e2.cell 0).trans rfl, (e2.cell 1).trans rfl, (e2.cell 2).trans rfl, (e2.cell 3).trans rfl, (e2.cell 4).trans rfl, (e2.cell 5).trans rfl, (e2.cell 6).trans rfl, (e2.cell 7).trans rfl, (e2.cell 8).trans rfl, (e2.cell 9).trans rfl, (e3.cell 3).trans rfl⟩
            (first | (go_must (go_region_held3 (fun w' => Below w.heap.size w w' ∧ Blk w' v1.heap.size 40 #[.string ⟨#[97]⟩, .string a1] ∧ Blk w' (v1.heap.size + 1) 42 #[.int .i64 0, .int .i64 0, .string ⟨#[]⟩, .string a1, .string a1, .string a1, .string ⟨#[]⟩, .int .i64 0, .int .i64 0, .slice (some ⟨v1.heap.size, 0, none⟩) 1 1] ∧ Blk w' (v1.heap.size + 1 + 1) 3 #[.int .i64 2, .int .i64 3, .int .i64 4, .int .i64 5] ∧ w'.cell? ⟨v1.heap.size + 1, 0, none⟩ = some (.int .i64 0) ∧ w'.cell? ⟨v1.heap.size + 1, 1, none⟩ = some (.int .i64 0) ∧ w'.cell? ⟨v1.heap.size + 1, 2, none⟩ = some (.string ⟨#[]⟩) ∧ w'.cell? ⟨v1.heap.size + 1, 3, none⟩ = some (.string a1) ∧ w'.cell? ⟨v1.heap.size + 1, 4, none⟩ = some (.string a1) ∧ w'.cell? ⟨v1.heap.size + 1, 5, none⟩ = some (.string a1) ∧ w'.cell? ⟨v1.heap.size + 1, 6, none⟩ = some (.string ⟨#[]⟩) ∧ w'.cell? ⟨v1.heap.size + 1, 7, none⟩ = some (.int .i64 0) ∧ w'.cell? ⟨v1.heap.size + 1, 8, none⟩ = some (.int .i64 0) ∧ w'.cell? ⟨v1.heap.size + 1, 9, none⟩ = some (.slice (some ⟨v1.heap.size, 0, none⟩) 1 1) ∧ w'.cell? ⟨v1.heap.size + 1 + 1, 3, none⟩ = some (.int .i64 5))
              ((first | exact hS0 | exact hS1 | exact hk.out _ hy1))
              (first | (go_at_call 14; first | refine hd1.out.mono ?_ | refine hd2.out.mono ?_; rintro e y1 ⟨rfl, hy1⟩) | fail))) | fail)
            have hY := hk.out _ hy1
            have q1 := Lib.hid hY.2.1
            have q2 := Lib.hid hY.2.2.1
            have q3 := Lib.hid hY.2.2.2.1
            have q4 := Lib.hid hY.1
            clear hy1 hY hk hS0 hS1 hd1 hd2 b1 b2 b3 kA c0 c1 c2 c3 c4 c5 c6 c7 c8 c9 d0 d1 d2 d3
            go_wp2_with fail
            go_roundw
            case rel => exact ⟨4, by omega, by go_num, q1, q2, q3, q4⟩
            case measure => simp [intOf]
      | false =>
        go_enter Try.func4, Try.ntmps4
        go_wp2_with fail
        refine (hC'.out _).mono ?_
        rintro e v1 ⟨rfl, hb1⟩
        have k1' := Lib.hid hb1; clear hb1 hC'
        have kA : Hid (Below w.heap.size w (((v1.alloc (.cells #[.string ⟨#[97]⟩, .string a1] 40)).alloc (.cells #[.int .i64 0, .int .i64 0, .string ⟨#[]⟩, .string a1, .string a1, .string a1, .string ⟨#[]⟩, .int .i64 0, .int .i64 0, .slice (some ⟨v1.heap.size, 0, none⟩) 1 1] 42)).alloc (.cells #[.int .i64 2, .int .i64 3, .int .i64 4, .int .i64 5] 3))) := by
          have z1 := k1'.out.alloc k1'.out.size (.cells #[.string ⟨#[97]⟩, .string a1] 40)
          have z2 := z1.alloc z1.size (.cells #[.int .i64 0, .int .i64 0, .string ⟨#[]⟩, .string a1, .string a1, .string a1, .string ⟨#[]⟩, .int .i64 0, .int .i64 0, .slice (some ⟨v1.heap.size, 0, none⟩) 1 1] 42)
          exact z2.alloc z2.size _
        have b1 : Hid (Blk (((v1.alloc (.cells #[.string ⟨#[97]⟩, .string a1] 40)).alloc (.cells #[.int .i64 0, .int .i64 0, .string ⟨#[]⟩, .string a1, .string a1, .string a1, .string ⟨#[]⟩, .int .i64 0, .int .i64 0, .slice (some ⟨v1.heap.size, 0, none⟩) 1 1] 42)).alloc (.cells #[.int .i64 2, .int .i64 3, .int .i64 4, .int .i64 5] 3)) v1.heap.size 40 #[.string ⟨#[97]⟩, .string a1]) := ((Blk.new _ _ _).alloc _).alloc _
        have b2 : Hid (Blk (((v1.alloc (.cells #[.string ⟨#[97]⟩, .string a1] 40)).alloc (.cells #[.int .i64 0, .int .i64 0, .string ⟨#[]⟩, .string a1, .string a1, .string a1, .string ⟨#[]⟩, .int .i64 0, .int .i64 0, .slice (some ⟨v1.heap.size, 0, none⟩) 1 1] 42)).alloc (.cells #[.int .i64 2, .int .i64 3, .int .i64 4, .int .i64 5] 3)) (v1.heap.size + 1) 42 #[.int .i64 0, .int .i64 0, .string ⟨#[]⟩, .string a1, .string a1, .string a1, .string ⟨#[]⟩, .int .i64 0, .int .i64 0, .slice (some ⟨v1.heap.size, 0, none⟩) 1 1]) := (Blk.new_ _ _ _ (by simp)).alloc _
        have b3 : Hid (Blk (((v1.alloc (.cells #[.string ⟨#[97]⟩, .string a1] 40)).alloc (.cells #[.int .i64 0, .int .i64 0, .string ⟨#[]⟩, .string a1, .string a1, .string a1, .string ⟨#[]⟩, .int .i64 0, .int .i64 0, .slice (some ⟨v1.heap.size, 0, none⟩) 1 1] 42)).alloc (.cells #[.int .i64 2, .int .i64 3, .int .i64 4, .int .i64 5] 3)) (v1.heap.size + 1 + 1) 3 #[.int .i64 2, .int .i64 3, .int .i64 4, .int .i64 5]) := Blk.new_ _ _ _ (by simp)
        go_wp2_with fail
        generalize ((v1.alloc (.cells #[.string ⟨#[97]⟩, .string a1] 40)).alloc (.cells #[.int .i64 0, .int .i64 0, .string ⟨#[]⟩, .string a1, .string a1, .string a1, .string ⟨#[]⟩, .int .i64 0, .int .i64 0, .slice (some ⟨v1.heap.size, 0, none⟩) 1 1] 42)).alloc (.cells #[.int .i64 2, .int .i64 3, .int .i64 4, .int .i64 5] 3) = w4 at *
        go_loopw [8] (fun s8 wr => ∃ i : Nat, i ≤ 4 ∧ s8 = .int .i64 i ∧ Hid (Blk wr v1.heap.size 40 #[.string ⟨#[97]⟩, .string a1]) ∧ Hid (Blk wr (v1.heap.size + 1) 42 #[.int .i64 0, .int .i64 0, .string ⟨#[]⟩, .string a1, .string a1, .string a1, .string ⟨#[]⟩, .int .i64 0, .int .i64 0, .slice (some ⟨v1.heap.size, 0, none⟩) 1 1]) ∧ Hid (Blk wr (v1.heap.size + 1 + 1) 3 #[.int .i64 2, .int .i64 3, .int .i64 4, .int .i64 5]) ∧ Hid (Below w.heap.size w wr)) (fun s8 _ => 4 - (intOf s8).toNat)
        case atStart => exact ⟨0, by omega, rfl, b1, b2, b3, kA⟩
        case round =>
          clear b1 b2 b3 kA
          obtain ⟨i, hi, rfl, b1, b2, b3, kA⟩ := hrel
          have c0 := b2.out.cell 0
          have c1 := b2.out.cell 1
          have c2 := b2.out.cell 2
          have c3 := b2.out.cell 3
          have c4 := b2.out.cell 4
          have c5 := b2.out.cell 5
          have c6 := b2.out.cell 6
          have c7 := b2.out.cell 7
          have c8 := b2.out.cell 8
          have c9 := b2.out.cell 9
          have d0 := b3.out.cell 0
          have d1 := b3.out.cell 1
          have d2 := b3.out.cell 2
          have d3 := b3.out.cell 3
          simp only [List.getElem?_toArray, List.getElem?_cons_zero, List.getElem?_cons_succ] at c0 c1 c2 c3 c4 c5 c6 c7 c8 c9 d0 d1 d2 d3
          rcases (by omega : i = 4 ∨ i = 0 ∨ i = 1 ∨ i = 2 ∨ i = 3) with rfl | rfl | rfl | rfl | rfl
          · have z1 := kA.out.alloc kA.out.size (.cells #[.string ⟨#[75]⟩, .string a1] 40)
            have z2 := z1.alloc z1.size (.cells #[.string a1] 9)
            have z3 := Lib.hid (z2.alloc z2.size (.cells #[.slice (some ⟨wr.heap.size, 0, none⟩) 1 1, .slice (some ⟨wr.heap.size + 1, 0, none⟩) 1 1, .slice none 0 0, .slice none 0 0, .slice none 0 0, .string ⟨#[]⟩, .int .i64 0, .string ⟨#[]⟩, .string ⟨#[]⟩, .int .i64 0, .string a1, .int .i64 0, .int .i64 0, .slice none 0 0] 28))
            have f1 : Hid (Blk (((wr.alloc (.cells #[.string ⟨#[75]⟩, .string a1] 40)).alloc (.cells #[.string a1] 9)).alloc (.cells #[.slice (some ⟨wr.heap.size, 0, none⟩) 1 1, .slice (some ⟨wr.heap.size + 1, 0, none⟩) 1 1, .slice none 0 0, .slice none 0 0, .slice none 0 0, .string ⟨#[]⟩, .int .i64 0, .string ⟨#[]⟩, .string ⟨#[]⟩, .int .i64 0, .string a1, .int .i64 0, .int .i64 0, .slice none 0 0] 28)) wr.heap.size 40 #[.string ⟨#[75]⟩, .string a1]) := ((Blk.new _ _ _).alloc _).alloc _
            have f2 : Hid (Blk (((wr.alloc (.cells #[.string ⟨#[75]⟩, .string a1] 40)).alloc (.cells #[.string a1] 9)).alloc (.cells #[.slice (some ⟨wr.heap.size, 0, none⟩) 1 1, .slice (some ⟨wr.heap.size + 1, 0, none⟩) 1 1, .slice none 0 0, .slice none 0 0, .slice none 0 0, .string ⟨#[]⟩, .int .i64 0, .string ⟨#[]⟩, .string ⟨#[]⟩, .int .i64 0, .string a1, .int .i64 0, .int .i64 0, .slice none 0 0] 28)) (wr.heap.size + 1) 9 #[.string a1]) := (Blk.new_ _ _ _ (by simp)).alloc _
            have f3 : Hid (Blk (((wr.alloc (.cells #[.string ⟨#[75]⟩, .string a1] 40)).alloc (.cells #[.string a1] 9)).alloc (.cells #[.slice (some ⟨wr.heap.size, 0, none⟩) 1 1, .slice (some ⟨wr.heap.size + 1, 0, none⟩) 1 1, .slice none 0 0, .slice none 0 0, .slice none 0 0, .string ⟨#[]⟩, .int .i64 0, .string ⟨#[]⟩, .string ⟨#[]⟩, .int .i64 0, .string a1, .int .i64 0, .int .i64 0, .slice none 0 0] 28)) (wr.heap.size + 1 + 1) 28 #[.slice (some ⟨wr.heap.size, 0, none⟩) 1 1, .slice (some ⟨wr.heap.size + 1, 0, none⟩) 1 1, .slice none 0 0, .slice none 0 0, .slice none 0 0, .string ⟨#[]⟩, .int .i64 0, .string ⟨#[]⟩, .string ⟨#[]⟩, .int .i64 0, .string a1, .int .i64 0, .int .i64 0, .slice none 0 0]) := Blk.new_ _ _ _ (by simp)
            clear z1 z2 c0 c1 c2 c3 c4 c5 c6 c7 c8 c9 d0 d1 d2 d3 b1 b2 b3 kA
            have g0 := Lib.hid (hF'.out 13 ⟨#[]⟩ ⟨#[]⟩ wr.heap.size (wr.heap.size + 1) _ (.inl ⟨rfl, rfl⟩) (by decide) f1.out f2.out)
            go_wp2_with fail
            generalize ((wr.alloc (.cells #[.string ⟨#[75]⟩, .string a1] 40)).alloc (.cells #[.string a1] 9)).alloc (.cells #[.slice (some ⟨wr.heap.size, 0, none⟩) 1 1, .slice (some ⟨wr.heap.size + 1, 0, none⟩) 1 1, .slice none 0 0, .slice none 0 0, .slice none 0 0, .string ⟨#[]⟩, .int .i64 0, .string ⟨#[]⟩, .string ⟨#[]⟩, .int .i64 0, .string a1, .int .i64 0, .int .i64 0, .slice none 0 0] 28) = y0 at *
            refine g0.out.mono ?_
            rintro e y1 ⟨rfl, hy⟩
            have z4 := Lib.hid (z3.out.trans (hy.mono z3.out.size))
            have e0a := Lib.hid (f1.out.below hy f1.out.lt)
            have e0b := Lib.hid (f2.out.below hy f2.out.lt)
            have e0c := Lib.hid (f3.out.below hy f3.out.lt)
            clear hy g0 z3 f1 f2 f3
            have x0 := e0c.out.cell 0
            have x1 := e0c.out.cell 1
            have x2 := e0c.out.cell 2
            have x3 := e0c.out.cell 3
            have x4 := e0c.out.cell 4
            have x5 := e0c.out.cell 5
            have x6 := e0c.out.cell 6
            have x7 := e0c.out.cell 7
            have x8 := e0c.out.cell 8
            have x9 := e0c.out.cell 9
            have x10 := e0c.out.cell 10
            have x11 := e0c.out.cell 11
            have x12 := e0c.out.cell 12
            have x13 := e0c.out.cell 13
            simp only [List.getElem?_toArray, List.getElem?_cons_zero, List.getElem?_cons_succ] at x0 x1 x2 x3 x4 x5 x6 x7 x8 x9 x10 x11 x12 x13
            have g0 := Lib.hid (hF'.out 6 ⟨#[75]⟩ ⟨#[]⟩ wr.heap.size (wr.heap.size + 1) _ (.inr (.inl ⟨rfl, rfl⟩)) (by decide) e0a.out e0b.out)
            go_wp2_with fail
            refine g0.out.mono ?_
            rintro e y2 ⟨rfl, hy⟩
            have z5 := Lib.hid (z4.out.trans (hy.mono z4.out.size))
            have e1a := Lib.hid (e0a.out.below hy e0a.out.lt)
            have e1b := Lib.hid (e0b.out.below hy e0b.out.lt)
            have e1c := Lib.hid (e0c.out.below hy e0c.out.lt)
            clear hy g0 z4 e0a e0b e0c
            clear x0 x1 x2 x3 x4 x5 x6 x7 x8 x9 x10 x11 x12 x13
            have x0 := e1c.out.cell 0
            have x1 := e1c.out.cell 1
            have x2 := e1c.out.cell 2
            have x3 := e1c.out.cell 3
            have x4 := e1c.out.cell 4
            have x5 := e1c.out.cell 5
            have x6 := e1c.out.cell 6
            have x7 := e1c.out.cell 7
            have x8 := e1c.out.cell 8
            have x9 := e1c.out.cell 9
            have x10 := e1c.out.cell 10
            have x11 := e1c.out.cell 11
            have x12 := e1c.out.cell 12
            have x13 := e1c.out.cell 13
            simp only [List.getElem?_toArray, List.getElem?_cons_zero, List.getElem?_cons_succ] at x0 x1 x2 x3 x4 x5 x6 x7 x8 x9 x10 x11 x12 x13
            have g0 := Lib.hid (hF'.out 7 ⟨#[]⟩ ⟨#[]⟩ wr.heap.size (wr.heap.size + 1) _ (.inr (.inr (.inl ⟨rfl, rfl⟩))) (by decide) e1a.out e1b.out)
            go_wp2_with fail
            refine g0.out.mono ?_
            rintro e y3 ⟨rfl, hy⟩
            have z6 := Lib.hid (z5.out.trans (hy.mono z5.out.size))
            have e2a := Lib.hid (e1a.out.below hy e1a.out.lt)
            have e2b := Lib.hid (e1b.out.below hy e1b.out.lt)
            have e2c := Lib.hid (e1c.out.below hy e1c.out.lt)
            clear hy g0 z5 e1a e1b e1c
            clear x0 x1 x2 x3 x4 x5 x6 x7 x8 x9 x10 x11 x12 x13
            have x0 := e2c.out.cell 0
            have x1 := e2c.out.cell 1
            have x2 := e2c.out.cell 2
            have x3 := e2c.out.cell 3
            have x4 := e2c.out.cell 4
            have x5 := e2c.out.cell 5
            have x6 := e2c.out.cell 6
            have x7 := e2c.out.cell 7
            have x8 := e2c.out.cell 8
            have x9 := e2c.out.cell 9
            have x10 := e2c.out.cell 10
            have x11 := e2c.out.cell 11
            have x12 := e2c.out.cell 12
            have x13 := e2c.out.cell 13
            simp only [List.getElem?_toArray, List.getElem?_cons_zero, List.getElem?_cons_succ] at x0 x1 x2 x3 x4 x5 x6 x7 x8 x9 x10 x11 x12 x13
            have g0 := Lib.hid (hF'.out 1 ⟨#[]⟩ a1 wr.heap.size (wr.heap.size + 1) _ (.inr (.inr (.inr ⟨rfl, rfl, rfl⟩))) s1 e2a.out e2b.out)
            go_wp2_with fail
            refine g0.out.mono ?_
            rintro e y4 ⟨rfl, hy⟩
            have z7 := Lib.hid (z6.out.trans (hy.mono z6.out.size))
            clear hy g0 z6 e2a e2b e2c
            go_wp2_with fail
            refine (hK'.out _).mono ?_
            rintro e y9 ⟨rfl, hy⟩
            have z9 := Lib.hid (z7.out.trans (hy.mono z7.out.size))
            go_wp2_with fail
            go_ret
            exact ⟨rfl, z9.out⟩
          · have hd1 := Lib.hid (hD'.out 2 v1.heap.size wr (by omega) b1.out)
            have hd2 := Lib.hid (hD'.out 2 v1.heap.size wr.drew (by omega) b1.out.drew)
            go_upto_region 9 with fail
            have hS0 : Below w.heap.size w wr ∧ Blk wr v1.heap.size 40 #[.string ⟨#[97]⟩, .string a1] ∧ Blk wr (v1.heap.size + 1) 42 #[.int .i64 0, .int .i64 0, .string ⟨#[]⟩, .string a1, .string a1, .string a1, .string ⟨#[]⟩, .int .i64 0, .int .i64 0, .slice (some ⟨v1.heap.size, 0, none⟩) 1 1] ∧ Blk wr (v1.heap.size + 1 + 1) 3 #[.int .i64 2, .int .i64 3, .int .i64 4, .int .i64 5] ∧ wr.cell? ⟨v1.heap.size + 1, 0, none⟩ = some (.int .i64 0) ∧ wr.cell? ⟨v1.heap.size + 1, 1, none⟩ = some (.int .i64 0) ∧ wr.cell? ⟨v1.heap.size + 1, 2, none⟩ = some (.string ⟨#[]⟩) ∧ wr.cell? ⟨v1.heap.size + 1, 3, none⟩ = some (.string a1) ∧ wr.cell? ⟨v1.heap.size + 1, 4, none⟩ = some (.string a1) ∧ wr.cell? ⟨v1.heap.size + 1, 5, none⟩ = some (.string a1) ∧ wr.cell? ⟨v1.heap.size + 1, 6, none⟩ = some (.string ⟨#[]⟩) ∧ wr.cell? ⟨v1.heap.size + 1, 7, none⟩ = some (.int .i64 0) ∧ wr.cell? ⟨v1.heap.size + 1, 8, none⟩ = some (.int .i64 0) ∧ wr.cell? ⟨v1.heap.size + 1, 9, none⟩ = some (.slice (some ⟨v1.heap.size, 0, none⟩) 1 1) ∧ wr.cell? ⟨v1.heap.size + 1 + 1, 0, none⟩ = some (.int .i64 2) := ⟨kA.out, b1.out, b2.out, b3.out, c0, c1, c2, c3, c4, c5, c6, c7, c8, c9, d0⟩
            have hS1 : Below w.heap.size w wr.drew ∧ Blk wr.drew v1.heap.size 40 #[.string ⟨#[97]⟩, .string a1] ∧ Blk wr.drew (v1.heap.size + 1) 42 #[.int .i64 0, .int .i64 0, .string ⟨#[]⟩, .string a1, .string a1, .string a1, .string ⟨#[]⟩, .int .i64 0, .int .i64 0, .slice (some ⟨v1.heap.size, 0, none⟩) 1 1] ∧ Blk wr.drew (v1.heap.size + 1 + 1) 3 #[.int .i64 2, .int .i64 3, .int .i64 4, .int .i64 5] ∧ wr.drew.cell? ⟨v1.heap.size + 1, 0, none⟩ = some (.int .i64 0) ∧ wr.drew.cell? ⟨v1.heap.size + 1, 1, none⟩ = some (.int .i64 0) ∧ wr.drew.cell? ⟨v1.heap.size + 1, 2, none⟩ = some (.string ⟨#[]⟩) ∧ wr.drew.cell? ⟨v1.heap.size + 1, 3, none⟩ = some (.string a1) ∧ wr.drew.cell? ⟨v1.heap.size + 1, 4, none⟩ = some (.string a1) ∧ wr.drew.cell? ⟨v1.heap.size + 1, 5, none⟩ = some (.string a1) ∧ wr.drew.cell? ⟨v1.heap.size + 1, 6, none⟩ = some (.string ⟨#[]⟩) ∧ wr.drew.cell? ⟨v1.heap.size + 1, 7, none⟩ = some (.int .i64 0) ∧ wr.drew.cell? ⟨v1.heap.size + 1, 8, none⟩ = some (.int .i64 0) ∧ wr.drew.cell? ⟨v1.heap.size + 1, 9, none⟩ = some (.slice (some ⟨v1.heap.size, 0, none⟩) 1 1) ∧ wr.drew.cell? ⟨v1.heap.size + 1 + 1, 0, none⟩ = some (.int .i64 2) := ⟨Below.drew kA.out, b1.out.drew, b2.out.drew, b3.out.drew, c0, c1, c2, c3, c4, c5, c6, c7, c8, c9, d0⟩
            have hk : Hid (∀ y, Below wr.drew.heap.size wr.drew y → Below w.heap.size w y ∧ Blk y v1.heap.size 40 #[.string ⟨#[97]⟩, .string a1] ∧ Blk y (v1.heap.size + 1) 42 #[.int .i64 0, .int .i64 0, .string ⟨#[]⟩, .string a1, .string a1, .string a1, .string ⟨#[]⟩, .int .i64 0, .int .i64 0, .slice (some ⟨v1.heap.size, 0, none⟩) 1 1] ∧ Blk y (v1.heap.size + 1 + 1) 3 #[.int .i64 2, .int .i64 3, .int .i64 4, .int .i64 5] ∧ y.cell? ⟨v1.heap.size + 1, 0, none⟩ = some (.int .i64 0) ∧ y.cell? ⟨v1.heap.size + 1, 1, none⟩ = some (.int .i64 0) ∧ y.cell? ⟨v1.heap.size + 1, 2, none⟩ = some (.string ⟨#[]⟩) ∧ y.cell? ⟨v1.heap.size + 1, 3, none⟩ = some (.string a1) ∧ y.cell? ⟨v1.heap.size + 1, 4, none⟩ = some (.string a1) ∧ y.cell? ⟨v1.heap.size + 1, 5, none⟩ = some (.string a1) ∧ y.cell? ⟨v1.heap.size + 1, 6, none⟩ = some (.string ⟨#[]⟩) ∧ y.cell? ⟨v1.heap.size + 1, 7, none⟩ = some (.int .i64 0) ∧ y.cell? ⟨v1.heap.size + 1, 8, none⟩ = some (.int .i64 0) ∧ y.cell? ⟨v1.heap.size + 1, 9, none⟩ = some (.slice (some ⟨v1.heap.size, 0, none⟩) 1 1) ∧ y.cell? ⟨v1.heap.size + 1 + 1, 0, none⟩ = some (.int .i64 2)) := fun y h => by
              have e1 := b1.out.drew.below h b1.out.drew.lt
              have e2 := b2.out.drew.below h b2.out.drew.lt
              have e3 := b3.out.drew.below h b3.out.drew.lt
              exact ⟨(Below.drew kA.out).trans (h.mono (Below.drew kA.out).size), e1, e2, e3, (e2.cell 0).trans rfl, (e2.cell 1).trans rfl, (e2.cell 2).trans rfl, (e2.cell 3).trans rfl, (e2.cell 4).trans rfl, (e2.cell 5).trans rfl, (e2.cell 6).trans rfl, (e2.cell 7).trans rfl, (e2.cell 8).trans rfl, (e2.cell 9).trans rfl, (e3.cell 0).trans rfl⟩
            (first | (go_must (go_region_held3 (fun w' => Below w.heap.size w w' ∧ Blk w' v1.heap.size 40 #[.string ⟨#[97]⟩, .string a1] ∧ Blk w' (v1.heap.size + 1) 42 #[.int .i64 0, .int .i64 0, .string ⟨#[]⟩, .string a1, .string a1, .string a1, .string ⟨#[]⟩, .int .i64 0, .int .i64 0, .slice (some ⟨v1.heap.size, 0, none⟩) 1 1] ∧ Blk w' (v1.heap.size + 1 + 1) 3 #[.int .i64 2, .int .i64 3, .int .i64 4, .int .i64 5] ∧ w'.cell? ⟨v1.heap.size + 1, 0, none⟩ = some (.int .i64 0) ∧ w'.cell? ⟨v1.heap.size + 1, 1, none⟩ = some (.int .i64 0) ∧ w'.cell? ⟨v1.heap.size + 1, 2, none⟩ = some (.string ⟨#[]⟩) ∧ w'.cell? ⟨v1.heap.size + 1, 3, none⟩ = some (.string a1) ∧ w'.cell? ⟨v1.heap.size + 1, 4, none⟩ = some (.string a1) ∧ w'.cell? ⟨v1.heap.size + 1, 5, none⟩ = some (.string a1) ∧ w'.cell? ⟨v1.heap.size + 1, 6, none⟩ = some (.string ⟨#[]⟩) ∧ w'.cell? ⟨v1.heap.size + 1, 7, none⟩ = some (.int .i64 0) ∧ w'.cell? ⟨v1.heap.size + 1, 8, none⟩ = some (.int .i64 0) ∧ w'.cell? ⟨v1.heap.size + 1, 9, none⟩ = some (.slice (some ⟨v1.heap.size, 0, none⟩) 1 1) ∧ w'.cell? ⟨v1.heap.size + 1 + 1, 0, none⟩ = some (.int .i64 2))
              ((first | exact hS0 | exact hS1 | exact hk.out _ hy1))
              (first | (go_at_call 14; first | refine hd1.out.mono ?_ | refine hd2.out.mono ?_; rintro e y1 ⟨rfl, hy1⟩) | fail))) | fail)
            have hY := hk.out _ hy1
            have q1 := Lib.hid hY.2.1
            have q2 := Lib.hid hY.2.2.1
            have q3 := Lib.hid hY.2.2.2.1
            have q4 := Lib.hid hY.1
            clear hy1 hY hk hS0 hS1 hd1 hd2 b1 b2 b3 kA c0 c1 c2 c3 c4 c5 c6 c7 c8 c9 d0 d1 d2 d3
            go_wp2_with fail
            go_roundw
            case rel => exact ⟨1, by omega, by go_num, q1, q2, q3, q4⟩
            case measure => simp [intOf]
          · have hd1 := Lib.hid (hD'.out 3 v1.heap.size wr (by omega) b1.out)
            have hd2 := Lib.hid (hD'.out 3 v1.heap.size wr.drew (by omega) b1.out.drew)
            go_upto_region 9 with fail
            have hS0 : Below w.heap.size w wr ∧ Blk wr v1.heap.size 40 #[.string ⟨#[97]⟩, .string a1] ∧ Blk wr (v1.heap.size + 1) 42 #[.int .i64 0, .int .i64 0, .string ⟨#[]⟩, .string a1, .string a1, .string a1, .string ⟨#[]⟩, .int .i64 0, .int .i64 0, .slice (some ⟨v1.heap.size, 0, none⟩) 1 1] ∧ Blk wr (v1.heap.size + 1 + 1) 3 #[.int .i64 2, .int .i64 3, .int .i64 4, .int .i64 5] ∧ wr.cell? ⟨v1.heap.size + 1, 0, none⟩ = some (.int .i64 0) ∧ wr.cell? ⟨v1.heap.size + 1, 1, none⟩ = some (.int .i64 0) ∧ wr.cell? ⟨v1.heap.size + 1, 2, none⟩ = some (.string ⟨#[]⟩) ∧ wr.cell? ⟨v1.heap.size + 1, 3, none⟩ = some (.string a1) ∧ wr.cell? ⟨v1.heap.size + 1, 4, none⟩ = some (.string a1) ∧ wr.cell? ⟨v1.heap.size + 1, 5, none⟩ = some (.string a1) ∧ wr.cell? ⟨v1.heap.size + 1, 6, none⟩ = some (.string ⟨#[]⟩) ∧ wr.cell? ⟨v1.heap.size + 1, 7, none⟩ = some (.int .i64 0) ∧ wr.cell? ⟨v1.heap.size + 1, 8, none⟩ = some (.int .i64 0) ∧ wr.cell? ⟨v1.heap.size + 1, 9, none⟩ = some (.slice (some ⟨v1.heap.size, 0, none⟩) 1 1) ∧ wr.cell? ⟨v1.heap.size + 1 + 1, 1, none⟩ = some (.int .i64 3) := ⟨kA.out, b1.out, b2.out, b3.out, c0, c1, c2, c3, c4, c5, c6, c7, c8, c9, d1⟩
            have hS1 : Below w.heap.size w wr.drew ∧ Blk wr.drew v1.heap.size 40 #[.string ⟨#[97]⟩, .string a1] ∧ Blk wr.drew (v1.heap.size + 1) 42 #[.int .i64 0, .int .i64 0, .string ⟨#[]⟩, .string a1, .string a1, .string a1, .string ⟨#[]⟩, .int .i64 0, .int .i64 0, .slice (some ⟨v1.heap.size, 0, none⟩) 1 1] ∧ Blk wr.drew (v1.heap.size + 1 + 1) 3 #[.int .i64 2, .int .i64 3, .int .i64 4, .int .i64 5] ∧ wr.drew.cell? ⟨v1.heap.size + 1, 0, none⟩ = some (.int .i64 0) ∧ wr.drew.cell? ⟨v1.heap.size + 1, 1, none⟩ = some (.int .i64 0) ∧ wr.drew.cell? ⟨v1.heap.size + 1, 2, none⟩ = some (.string ⟨#[]⟩) ∧ wr.drew.cell? ⟨v1.heap.size + 1, 3, none⟩ = some (.string a1) ∧ wr.drew.cell? ⟨v1.heap.size + 1, 4, none⟩ = some (.string a1) ∧ wr.drew.cell? ⟨v1.heap.size + 1, 5, none⟩ = some (.string a1) ∧ wr.drew.cell? ⟨v1.heap.size + 1, 6, none⟩ = some (.string ⟨#[]⟩) ∧ wr.drew.cell? ⟨v1.heap.size + 1, 7, none⟩ = some (.int .i64 0) ∧ wr.drew.cell? ⟨v1.heap.size + 1, 8, none⟩ = some (.int .i64 0) ∧ wr.drew.cell? ⟨v1.heap.size + 1, 9, none⟩ = some (.slice (some ⟨v1.heap.size, 0, none⟩) 1 1) ∧ wr.drew.cell? ⟨v1.heap.size + 1 + 1, 1, none⟩ = some (.int .i64 3) := ⟨Below.drew kA.out, b1.out.drew, b2.out.drew, b3.out.drew, c0, c1, c2, c3, c4, c5, c6, c7, c8, c9, d1⟩
            have hk : Hid (∀ y, Below wr.drew.heap.size wr.drew y → Below w.heap.size w y ∧ Blk y v1.heap.size 40 #[.string ⟨#[97]⟩, .string a1] ∧ Blk y (v1.heap.size + 1) 42 #[.int .i64 0, .int .i64 0, .string ⟨#[]⟩, .string a1, .string a1, .string a1, .string ⟨#[]⟩, .int .i64 0, .int .i64 0, .slice (some ⟨v1.heap.size, 0, none⟩) 1 1] ∧ Blk y (v1.heap.size + 1 + 1) 3 #[.int .i64 2, .int .i64 3, .int .i64 4, .int .i64 5] ∧ y.cell? ⟨v1.heap.size + 1, 0, none⟩ = some (.int .i64 0) ∧ y.cell? ⟨v1.heap.size + 1, 1, none⟩ = some (.int .i64 0) ∧ y.cell? ⟨v1.heap.size + 1, 2, none⟩ = some (.string ⟨#[]⟩) ∧ y.cell? ⟨v1.heap.size + 1, 3, none⟩ = some (.string a1) ∧ y.cell? ⟨v1.heap.size + 1, 4, none⟩ = some (.string a1) ∧ y.cell? ⟨v1.heap.size + 1, 5, none⟩ = some (.string a1) ∧ y.cell? ⟨v1.heap.size + 1, 6, none⟩ = some (.string ⟨#[]⟩) ∧ y.cell? ⟨v1.heap.size + 1, 7, none⟩ = some (.int .i64 0) ∧ y.cell? ⟨v1.heap.size + 1, 8, none⟩ = some (.int .i64 0) ∧ y.cell? ⟨v1.heap.size + 1, 9, none⟩ = some (.slice (some ⟨v1.heap.size, 0, none⟩) 1 1) ∧ y.cell? ⟨v1.heap.size + 1 + 1, 1, none⟩ = some (.int .i64 3)) := fun y h => by
              have e1 := b1.out.drew.below h b1.out.drew.lt
              have e2 := b2.out.drew.below h b2.out.drew.lt
              have e3 := b3.out.drew.below h b3.out.drew.lt
              exact ⟨(Below.drew kA.out).trans (h.mono (Below.drew kA.out).size), e1, e2, e3, (e2.cell 0).trans rfl, (e2.cell 1).trans rfl, (e2.cell 2).trans rfl, (e2.cell 3).trans rfl, (e2.cell 4).trans rfl, (e2.cell 5).trans rfl, (e2.cell 6).trans rfl, (e2.cell 7).trans rfl, (e2.cell 8).trans rfl, (e2.cell 9).trans rfl, (e3.cell 1).trans rfl⟩
            (first | (go_must (go_region_held3 (fun w' => Below w.heap.size w w' ∧ Blk w' v1.heap.size 40 #[.string ⟨#[97]⟩, .string a1] ∧ Blk w' (v1.heap.size + 1) 42 #[.int .i64 0, .int .i64 0, .string ⟨#[]⟩, .string a1, .string a1, .string a1, .string ⟨#[]⟩, .int .i64 0, .int .i64 0, .slice (some ⟨v1.heap.size, 0, none⟩) 1 1] ∧ Blk w' (v1.heap.size + 1 + 1) 3 #[.int .i64 2, .int .i64 3, .int .i64 4, .int .i64 5] ∧ w'.cell? ⟨v1.heap.size + 1, 0, none⟩ = some (.int .i64 0) ∧ w'.cell? ⟨v1.heap.size + 1, 1, none⟩ = some (.int .i64 0) ∧ w'.cell? ⟨v1.heap.size + 1, 2, none⟩ = some (.string ⟨#[]⟩) ∧ w'.cell? ⟨v1.heap.size + 1, 3, none⟩ = some (.string a1) ∧ w'.cell? ⟨v1.heap.size + 1, 4, none⟩ = some (.string a1) ∧ w'.cell? ⟨v1.heap.size + 1, 5, none⟩ = some (.string a1) ∧ w'.cell? ⟨v1.heap.size + 1, 6, none⟩ = some (.string ⟨#[]⟩) ∧ w'.cell? ⟨v1.heap.size + 1, 7, none⟩ = some (.int .i64 0) ∧ w'.cell? ⟨v1.heap.size + 1, 8, none⟩ = some (.int .i64 0) ∧ w'.cell? ⟨v1.heap.size + 1, 9, none⟩ = some (.slice (some ⟨v1.heap.size, 0, none⟩) 1 1) ∧ w'.cell? ⟨v1.heap.size + 1 + 1, 1, none⟩ = some (.int .i64 3))
              ((first | exact hS0 | exact hS1 | exact hk.out _ hy1))
              (first | (go_at_call 14; first | refine hd1.out.mono ?_ | refine hd2.out.mono ?_; rintro e y1 ⟨rfl, hy1⟩) | fail))) | fail)
            have hY := hk.out _ hy1
            have q1 := Lib.hid hY.2.1
            have q2 := Lib.hid hY.2.2.1
            have q3 := Lib.hid hY.2.2.2.1
            have q4 := Lib.hid hY.1
            clear hy1 hY hk hS0 hS1 hd1 hd2 b1 b2 b3 kA c0 c1 c2 c3 c4 c5 c6 c7 c8 c9 d0 d1 d2 d3
            go_wp2_with fail
            go_roundw
            case rel => exact ⟨2, by omega, by go_num, q1, q2, q3, q4⟩
            case measure => simp [intOf]
          · have hd1 := Lib.hid (hD'.out 4 v1.heap.size wr (by omega) b1.out)
            have hd2 := Lib.hid (hD'.out 4 v1.heap.size wr.drew (by omega) b1.out.drew)
            go_upto_region 9 with fail
            have hS0 : Below w.heap.size w wr ∧ Blk wr v1.heap.size 40 #[.string ⟨#[97]⟩, .string a1] ∧ Blk wr (v1.heap.size + 1) 42 #[.int .i64 0, .int .i64 0, .string ⟨#[]⟩, .string a1, .string a1, .string a1, .string ⟨#[]⟩, .int .i64 0, .int .i64 0, .slice (some ⟨v1.heap.size, 0, none⟩) 1 1] ∧ Blk wr (v1.heap.size + 1 + 1) 3 #[.int .i64 2, .int .i64 3, .int .i64 4, .int .i64 5] ∧ wr.cell? ⟨v1.heap.size + 1, 0, none⟩ = some (.int .i64 0) ∧ wr.cell? ⟨v1.heap.size + 1, 1, none⟩ = some (.int .i64 0) ∧ wr.cell? ⟨v1.heap.size + 1, 2, none⟩ = some (.string ⟨#[]⟩) ∧ wr.cell? ⟨v1.heap.size + 1, 3, none⟩ = some (.string a1) ∧ wr.cell? ⟨v1.heap.size + 1, 4, none⟩ = some (.string a1) ∧ wr.cell? ⟨v1.heap.size + 1, 5, none⟩ = some (.string a1) ∧ wr.cell? ⟨v1.heap.size + 1, 6, none⟩ = some (.string ⟨#[]⟩) ∧ wr.cell? ⟨v1.heap.size + 1, 7, none⟩ = some (.int .i64 0) ∧ wr.cell? ⟨v1.heap.size + 1, 8, none⟩ = some (.int .i64 0) ∧ wr.cell? ⟨v1.heap.size + 1, 9, none⟩ = some (.slice (some ⟨v1.heap.size, 0, none⟩) 1 1) ∧ wr.cell? ⟨v1.heap.size + 1 + 1, 2, none⟩ = some (.int .i64 4) := ⟨kA.out, b1.out, b2.out, b3.out, c0, c1, c2, c3, c4, c5, c6, c7, c8, c9, d2⟩
            have hS1 : Below w.heap.size w wr.drew ∧ Blk wr.drew v1.heap.size 40 #[.string ⟨#[97]⟩, .string a1] ∧ Blk wr.drew (v1.heap.size + 1) 42 #[.int .i64 0, .int .i64 0, .string ⟨#[]⟩, .string a1, .string a1, .string a1, .string ⟨#[]⟩, .int .i64 0, .int .i64 0, .slice (some ⟨v1.heap.size, 0, none⟩) 1 1] ∧ Blk wr.drew (v1.heap.size + 1 + 1) 3 #[.int .i64 2, .int .i64 3, .int .i64 4, .int .i64 5] ∧ wr.drew.cell? ⟨v1.heap.size + 1, 0, none⟩ = some (.int .i64 0) ∧ wr.drew.cell? ⟨v1.heap.size + 1, 1, none⟩ = some (.int .i64 0) ∧ wr.drew.cell? ⟨v1.heap.size + 1, 2, none⟩ = some (.string ⟨#[]⟩) ∧ wr.drew.cell? ⟨v1.heap.size + 1, 3, none⟩ = some (.string a1) ∧ wr.drew.cell? ⟨v1.heap.size + 1, 4, none⟩ = some (.string a1) ∧ wr.drew.cell? ⟨v1.heap.size + 1, 5, none⟩ = some (.string a1) ∧ wr.drew.cell? ⟨v1.heap.size + 1, 6, none⟩ = some (.string ⟨#[]⟩) ∧ wr.drew.cell? ⟨v1.heap.size + 1, 7, none⟩ = some (.int .i64 0) ∧ wr.drew.cell? ⟨v1.heap.size + 1, 8, none⟩ = some (.int .i64 0) ∧ wr.drew.cell? ⟨v1.heap.size + 1, 9, none⟩ = some (.slice (some ⟨v1.heap.size, 0, none⟩) 1 1) ∧ wr.drew.cell? ⟨v1.heap.size + 1 + 1, 2, none⟩ = some (.int .i64 4) := ⟨Below.drew kA.out, b1.out.drew, b2.out.drew, b3.out.drew, c0, c1, c2, c3, c4, c5, c6, c7, c8, c9, d2⟩
            have hk : Hid (∀ y, Below wr.drew.heap.size wr.drew y → Below w.heap.size w y ∧ Blk y v1.heap.size 40 #[.string ⟨#[97]⟩, .string a1] ∧ Blk y (v1.heap.size + 1) 42 #[.int .i64 0, .int .i64 0, .string ⟨#[]⟩, .string a1, .string a1, .string a1, .string ⟨#[]⟩, .int .i64 0, .int .i64 0, .slice (some ⟨v1.heap.size, 0, none⟩) 1 1] ∧ Blk y (v1.heap.size + 1 + 1) 3 #[.int .i64 2, .int .i64 3, .int .i64 4, .int .i64 5] ∧ y.cell? ⟨v1.heap.size + 1, 0, none⟩ = some (.int .i64 0) ∧ y.cell? ⟨v1.heap.size + 1, 1, none⟩ = some (.int .i64 0) ∧ y.cell? ⟨v1.heap.size + 1, 2, none⟩ = some (.string ⟨#[]⟩) ∧ y.cell? ⟨v1.heap.size + 1, 3, none⟩ = some (.string a1) ∧ y.cell? ⟨v1.heap.size + 1, 4, none⟩ = some (.string a1) ∧ y.cell? ⟨v1.heap.size + 1, 5, none⟩ = some (.string a1) ∧ y.cell? ⟨v1.heap.size + 1, 6, none⟩ = some (.string ⟨#[]⟩) ∧ y.cell? ⟨v1.heap.size + 1, 7, none⟩ = some (.int .i64 0) ∧ y.cell? ⟨v1.heap.size + 1, 8, none⟩ = some (.int .i64 0) ∧ y.cell? ⟨v1.heap.size + 1, 9, none⟩ = some (.slice (some ⟨v1.heap.size, 0, none⟩) 1 1) ∧ y.cell? ⟨v1.heap.size + 1 + 1, 2, none⟩ = some (.int .i64 4)) := fun y h => by
              have e1 := b1.out.drew.below h b1.out.drew.lt
              have e2 := b2.out.drew.below h b2.out.drew.lt
              have e3 := b3.out.drew.below h b3.out.drew.lt
              exact ⟨(Below.drew kA.out).trans (h.mono (Below.drew kA.out).size), e1, e2, e3, (e2.cell 0).trans rfl, (e2.cell 1).trans rfl, (e2.cell 2).trans rfl, (e2.cell 3).trans rfl, (e2.cell 4).trans rfl, (e2.cell 5).trans rfl, (e2.cell 6).trans rfl, (e2.cell 7).trans rfl, (e2.cell 8).trans rfl, (e2.cell 9).trans rfl, (e3.cell 2).trans rfl⟩
            (first | (go_must (go_region_held3 (fun w' => Below w.heap.size w w' ∧ Blk w' v1.heap.size 40 #[.string ⟨#[97]⟩, .string a1] ∧ Blk w' (v1.heap.size + 1) 42 #[.int .i64 0, .int .i64 0, .string ⟨#[]⟩, .string a1, .string a1, .string a1, .string ⟨#[]⟩, .int .i64 0, .int .i64 0, .slice (some ⟨v1.heap.size, 0, none⟩) 1 1] ∧ Blk w' (v1.heap.size + 1 + 1) 3 #[.int .i64 2, .int .i64 3, .int .i64 4, .int .i64 5] ∧ w'.cell? ⟨v1.heap.size + 1, 0, none⟩ = some (.int .i64 0) ∧ w'.cell? ⟨v1.heap.size + 1, 1, none⟩ = some (.int .i64 0) ∧ w'.cell? ⟨v1.heap.size + 1, 2, none⟩ = some (.string ⟨#[]⟩) ∧ w'.cell? ⟨v1.heap.size + 1, 3, none⟩ = some (.string a1) ∧ w'.cell? ⟨v1.heap.size + 1, 4, none⟩ = some (.string a1) ∧ w'.cell? ⟨v1.heap.size + 1, 5, none⟩ = some (.string a1) ∧ w'.cell? ⟨v1.heap.size + 1, 6, none⟩ = some (.string ⟨#[]⟩) ∧ w'.cell? ⟨v1.heap.size + 1, 7, none⟩ = some (.int .i64 0) ∧ w'.cell? ⟨v1.heap.size + 1, 8, none⟩ = some (.int .i64 0) ∧ w'.cell? ⟨v1.heap.size + 1, 9, none⟩ = some (.slice (some ⟨v1.heap.size, 0, none⟩) 1 1) ∧ w'.cell? ⟨v1.heap.size + 1 + 1, 2, none⟩ = some (.int .i64 4))
              ((first | exact hS0 | exact hS1 | exact hk.out _ hy1))
              (first | (go_at_call 14; first | refine hd1.out.mono ?_ | refine hd2.out.mono ?_; rintro e y1 ⟨rfl, hy1⟩) | fail))) | fail)
            have hY := hk.out _ hy1
            have q1 := Lib.hid hY.2.1
            have q2 := Lib.hid hY.2.2.1
            have q3 := Lib.hid hY.2.2.2.1
            have q4 := Lib.hid hY.1
            clear hy1 hY hk hS0 hS1 hd1 hd2 b1 b2 b3 kA c0 c1 c2 c3 c4 c5 c6 c7 c8 c9 d0 d1 d2 d3
            go_wp2_with fail
            go_roundw
            case rel => exact ⟨3, by omega, by go_num, q1, q2, q3, q4⟩
            case measure => simp [intOf]
          · have hd1 := Lib.hid (hD'.out 5 v1.heap.size wr (by omega) b1.out)
            have hd2 := Lib.hid (hD'.out 5 v1.heap.size wr.drew (by omega) b1.out.drew)
            go_upto_region 9 with fail
            have hS0 : Below w.heap.size w wr ∧ Blk wr v1.heap.size 40 #[.string ⟨#[97]⟩, .string a1] ∧ Blk wr (v1.heap.size + 1) 42 #[.int .i64 0, .int .i64 0, .string ⟨#[]⟩, .string a1, .string a1, .string a1, .string ⟨#[]⟩, .int .i64 0, .int .i64 0, .slice (some ⟨v1.heap.size, 0, none⟩) 1 1] ∧ Blk wr (v1.heap.size + 1 + 1) 3 #[.int .i64 2, .int .i64 3, .int .i64 4, .int .i64 5] ∧ wr.cell? ⟨v1.heap.size + 1, 0, none⟩ = some (.int .i64 0) ∧ wr.cell? ⟨v1.heap.size + 1, 1, none⟩ = some (.int .i64 0) ∧ wr.cell? ⟨v1.heap.size + 1, 2, none⟩ = some (.string ⟨#[]⟩) ∧ wr.cell? ⟨v1.heap.size + 1, 3, none⟩ = some (.string a1) ∧ wr.cell? ⟨v1.heap.size + 1, 4, none⟩ = some (.string a1) ∧ wr.cell? ⟨v1.heap.size + 1, 5, none⟩ = some (.string a1) ∧ wr.cell? ⟨v1.heap.size + 1, 6, none⟩ = some (.string ⟨#[]⟩) ∧ wr.cell? ⟨v1.heap.size + 1, 7, none⟩ = some (.int .i64 0) ∧ wr.cell? ⟨v1.heap.size + 1, 8, none⟩ = some (.int .i64 0) ∧ wr.cell? ⟨v1.heap.size + 1, 9, none⟩ = some (.slice (some ⟨v1.heap.size, 0, none⟩) 1 1) ∧ wr.cell? ⟨v1.heap.size + 1 + 1, 3, none⟩ = some (.int .i64 5) := ⟨kA.out, b1.out, b2.out, b3.out, c0, c1, c2, c3, c4, c5, c6, c7, c8, c9, d3⟩
            have hS1 : Below w.heap.size w wr.drew ∧ Blk wr.drew v1.heap.size 40 #[.string ⟨#[97]⟩, .string a1] ∧ Blk wr.drew (v1.heap.size + 1) 42 #[.int .i64 0, .int .i64 0, .string ⟨#[]⟩, .string a1, .string a1, .string a1, .string ⟨#[]⟩, .int .i64 0, .int .i64 0, .slice (some ⟨v1.heap.size, 0, none⟩) 1 1] ∧ Blk wr.drew (v1.heap.size + 1 + 1) 3 #[.int .i64 2, .int .i64 3, .int .i64 4, .int .i64 5] ∧ wr.drew.cell? ⟨v1.heap.size + 1, 0, none⟩ = some (.int .i64 0) ∧ wr.drew.cell? ⟨v1.heap.size + 1, 1, none⟩ = some (.int .i64 0) ∧ wr.drew.cell? ⟨v1.heap.size + 1, 2, none⟩ = some (.string ⟨#[]⟩) ∧ wr.drew.cell? ⟨v1.heap.size + 1, 3, none⟩ = some (.string a1) ∧ wr.drew.cell? ⟨v1.heap.size + 1, 4, none⟩ = some (.string a1) ∧ wr.drew.cell? ⟨v1.heap.size + 1, 5, none⟩ = some (.string a1) ∧ wr.drew.cell? ⟨v1.heap.size + 1, 6, none⟩ = some (.string ⟨#[]⟩) ∧ wr.drew.cell? ⟨v1.heap.size + 1, 7, none⟩ = some (.int .i64 0) ∧ wr.drew.cell? ⟨v1.heap.size + 1, 8, none⟩ = some (.int .i64 0) ∧ wr.drew.cell? ⟨v1.heap.size + 1, 9, none⟩ = some (.slice (some ⟨v1.heap.size, 0, none⟩) 1 1) ∧ wr.drew.cell? ⟨v1.heap.size + 1 + 1, 3, none⟩ = some (.int .i64 5) := ⟨Below.drew kA.out, b1.out.drew, b2.out.drew, b3.out.drew, c0, c1, c2, c3, c4, c5, c6, c7, c8, c9, d3⟩
            have hk : Hid (∀ y, Below wr.drew.heap.size wr.drew y → Below w.heap.size w y ∧ Blk y v1.heap.size 40 #[.string ⟨#[97]⟩, .string a1] ∧ Blk y (v1.heap.size + 1) 42 #[.int .i64 0, .int .i64 0, .string ⟨#[]⟩, .string a1, .string a1, .string a1, .string ⟨#[]⟩, .int .i64 0, .int .i64 0, .slice (some ⟨v1.heap.size, 0, none⟩) 1 1] ∧ Blk y (v1.heap.size + 1 + 1) 3 #[.int .i64 2, .int .i64 3, .int .i64 4, .int .i64 5] ∧ y.cell? ⟨v1.heap.size + 1, 0, none⟩ = some (.int .i64 0) ∧ y.cell? ⟨v1.heap.size + 1, 1, none⟩ = some (.int .i64 0) ∧ y.cell? ⟨v1.heap.size + 1, 2, none⟩ = some (.string ⟨#[]⟩) ∧ y.cell? ⟨v1.heap.size + 1, 3, none⟩ = some (.string a1) ∧ y.cell? ⟨v1.heap.size + 1, 4, none⟩ = some (.string a1) ∧ y.cell? ⟨v1.heap.size + 1, 5, none⟩ = some (.string a1) ∧ y.cell? ⟨v1.heap.size + 1, 6, none⟩ = some (.string ⟨#[]⟩) ∧ y.cell? ⟨v1.heap.size + 1, 7, none⟩ = some (.int .i64 0) ∧ y.cell? ⟨v1.heap.size + 1, 8, none⟩ = some (.int .i64 0) ∧ y.cell? ⟨v1.heap.size + 1, 9, none⟩ = some (.slice (some ⟨v1.heap.size, 0, none⟩) 1 1) ∧ y.cell? ⟨v1.heap.size + 1 + 1, 3, none⟩ = some (.int .i64 5)) := fun y h => by
              have e1 := b1.out.drew.below h b1.out.drew.lt
              have e2 := b2.out.drew.below h b2.out.drew.lt
              have e3 := b3.out.drew.below h b3.out.drew.lt
              exact ⟨(Below.drew kA.out).trans (h.mono (Below.drew kA.out).size), e1, e2, e3, (e2.cell 0).trans rfl, (e2.cell 1).trans rfl, (e2.cell 2).trans rfl, (e2.cell 3).trans rfl, (e2.cell 4).trans rfl, (e2.cell 5).trans rfl, (e2.cell 6).trans rfl, (e2.cell 7).trans rfl, (e2.cell 8).trans rfl, (e2.cell 9).trans rfl, (e3.cell 3).trans rfl⟩
            (first | (go_must (go_region_held3 (fun w' => Below w.heap.size w w' ∧ Blk w' v1.heap.size 40 #[.string ⟨#[97]⟩, .string a1] ∧ Blk w' (v1.heap.size + 1) 42 #[.int .i64 0, .int .i64 0, .string ⟨#[]⟩, .string a1, .string a1, .string a1, .string ⟨#[]⟩, .int .i64 0, .int .i64 0, .slice (some ⟨v1.heap.size, 0, none⟩) 1 1] ∧ Blk w' (v1.heap.size + 1 + 1) 3 #[.int .i64 2, .int .i64 3, .int .i64 4, .int .i64 5] ∧ w'.cell? ⟨v1.heap.size + 1, 0, none⟩ = some (.int .i64 0) ∧ w'.cell? ⟨v1.heap.size + 1, 1, none⟩ = some (.int .i64 0) ∧ w'.cell? ⟨v1.heap.size + 1, 2, none⟩ = some (.string ⟨#[]⟩) ∧ w'.cell? ⟨v1.heap.size + 1, 3, none⟩ = some (.string a1) ∧ w'.cell? ⟨v1.heap.size + 1, 4, none⟩ = some (.string a1) ∧ w'.cell? ⟨v1.heap.size + 1, 5, none⟩ = some (.string a1) ∧ w'.cell? ⟨v1.heap.size + 1, 6, none⟩ = some (.string ⟨#[]⟩) ∧ w'.cell? ⟨v1.heap.size + 1, 7, none⟩ = some (.int .i64 0) ∧ w'.cell? ⟨v1.heap.size + 1, 8, none⟩ = some (.int .i64 0) ∧ w'.cell? ⟨v1.heap.size + 1, 9, none⟩ = some (.slice (some ⟨v1.heap.size, 0, none⟩) 1 1) ∧ w'.cell? ⟨v1.heap.size + 1 + 1, 3, none⟩ = some (.int .i64 5))
              ((first | exact hS0 | exact hS1 | exact hk.out _ hy1))
              (first | (go_at_call 14; first | refine hd1.out.mono ?_ | refine hd2.out.mono ?_; rintro e y1 ⟨rfl, hy1⟩) | fail))) | fail)
            have hY := hk.out _ hy1
            have q1 := Lib.hid hY.2.1
            have q2 := Lib.hid hY.2.2.1
            have q3 := Lib.hid hY.2.2.2.1
            have q4 := Lib.hid hY.1
            clear hy1 hY hk hS0 hS1 hd1 hd2 b1 b2 b3 kA c0 c1 c2 c3 c4 c5 c6 c7 c8 c9 d0 d1 d2 d3
            go_wp2_with fail
            go_roundw
            case rel => exact ⟨4, by omega, by go_num, q1, q2, q3, q4⟩
            case measure => simp [intOf]
    · have i0 : ¬ (200 : Int) < (a0.size : Int) := by omega
      have i1 : (200 : Int) < (a1.size : Int) := by omega
      go_enter Try.func4, Try.ntmps4
      go_wp2_with fail
      refine (hK'.out _).mono ?_
      rintro e v1 ⟨rfl, hb1⟩
      have k1' := Lib.hid hb1; clear hb1
      go_wp2_with fail
      go_ret
      exact ⟨rfl, k1'.out⟩
  · have i0 : (200 : Int) < (a0.size : Int) := by omega
    go_enter Try.func4, Try.ntmps4
    go_wp2_with fail
    refine (hK'.out _).mono ?_
    rintro e v1 ⟨rfl, hb1⟩
    have k1' := Lib.hid hb1; clear hb1
    go_wp2_with fail
    go_ret
    exact ⟨rfl, k1'.out⟩

end Go.Proofs.Ytfdlapkgpikfjaa
