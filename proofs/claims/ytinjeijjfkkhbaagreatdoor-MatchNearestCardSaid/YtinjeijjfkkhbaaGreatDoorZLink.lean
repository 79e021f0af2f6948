/-
  THE WALKS of coldplugref01: in, Valid, Printable, Text, Interface, Beneath: that they answer, and write nothing.
  THE WALKS of coldplugref01.Link and Compare: that they answer, and turn no older block.
-/
import Derived.Test.YtinjeijjfkkhbaaGreatDoorGlobMem
import Derived.Test.YtinjeijjfkkhbaaGreatDoorZShelf
import Derived.IntWalk
import Derived.Test.YtinjeijjfkkhbaaGreatDoorMatchHolds
namespace Go.Proofs.YtinjeijjfkkhbaaGreatDoor
open Go.RowKit

/-- Some Boolean is answered, and no older block is turned. -/
def Says (w : World) (e : Ending) (w' : World) : Prop := (∃ b : Bool, e = .returned (.bool b)) ∧ Below w.heap.size w w'
theorem Says.mk' {w w' : World} {b : Bool} (h : Below w.heap.size w w') : Says w (.returned (.bool b)) w' := ⟨⟨b, rfl⟩, h⟩

set_option maxHeartbeats 1000000 in
theorem zin_any (s set : ByteArray) (w : World) (hs : s.size ≤ 1000000000) : Calls Tryz.prog 78 #[.string s, .string set] w (Says w) := by
  go_enter Tryz.func78, Tryz.ntmps78
  go_wp2_with fail
  go_loop [5] (fun i => ∃ k : Nat, k ≤ s.size ∧ i = .int .i64 k) (fun i => s.size - (intOf i).toNat)
  case atStart => exact ⟨0, by omega, rfl⟩
  case round =>
    obtain ⟨k, hk, rfl⟩ := hrel
    by_cases hlt : k < s.size
    · have hI := Lib.hid (Tryz.strings_IndexByte set ((s[k]'hlt).toNat : Int) w)
      obtain ⟨n, hn⟩ : ∃ n, Lib.indexByte set.data.toList (((s[k]'hlt).toNat : Int)).toNat.toUInt8 = n := ⟨_, rfl⟩
      rw [hn] at hI
      clear hn
      by_cases h0 : n < 0
      · go_wp2_with (go_at_call 91; refine hI.out.mono ?_; rintro e w' ⟨rfl, rfl⟩)
        go_ret
        exact Says.mk' (Below.refl _ _)
      · go_wp2_with (go_at_call 91; refine hI.out.mono ?_; rintro e w' ⟨rfl, rfl⟩)
        refine ⟨⟨k + 1, by omega, by go_num⟩, ?_⟩
        simp [intOf]
        omega
    · go_wp2_with fail
      go_ret
      exact Says.mk' (Below.refl _ _)

set_option maxHeartbeats 1000000 in
theorem zvalid_any (s : ByteArray) (w : World) (hs : s.size ≤ 1000000000) : Calls Tryz.prog 63 #[.string s] w (Says w) := by
  have hI := Lib.hid (fun t => zin_any s t w hs)
  obtain ⟨b1, h1⟩ : ∃ b, (s.toList == []) = b := ⟨_, rfl⟩
  obtain ⟨b4, h4⟩ : ∃ b, (s.toList == [46]) = b := ⟨_, rfl⟩
  obtain ⟨b5, h5⟩ : ∃ b, (s.toList == [46, 46]) = b := ⟨_, rfl⟩
  cases b1 with
  | true =>
    go_enter Tryz.func63, Tryz.ntmps63
    go_wp2_with fail
    go_ret
    exact Says.mk' (Below.refl _ _)
  | false =>
    by_cases h32 : s.size ≤ 32
    · have i32 : (s.size : Int) ≤ 32 := by omega
      go_enter Tryz.func63, Tryz.ntmps63
      go_wp2_with fail
      refine (hI.out _).mono ?_
      rintro e w1 ⟨⟨b3, rfl⟩, hb⟩
      have hb' := Lib.hid hb; clear hb
      cases b3
      · go_wp2_with fail
        go_ret
        exact Says.mk' hb'.out
      · cases b4
        · cases b5
          · go_wp2_with fail
            go_ret
            exact Says.mk' hb'.out
          · go_wp2_with fail
            go_ret
            exact Says.mk' hb'.out
        · go_wp2_with fail
          go_ret
          exact Says.mk' hb'.out
    · have i32 : ¬ (s.size : Int) ≤ 32 := by omega
      go_enter Tryz.func63, Tryz.ntmps63
      go_wp2_with fail
      go_ret
      exact Says.mk' (Below.refl _ _)

set_option maxHeartbeats 1000000 in
theorem zprintable_any (s : ByteArray) (w : World) (hs : s.size ≤ 1000000000) : Calls Tryz.prog 79 #[.string s] w (Says w) := by
  go_enter Tryz.func79, Tryz.ntmps79
  go_wp2_with fail
  go_loop [3] (fun i => ∃ k : Nat, k ≤ s.size ∧ i = .int .i64 k) (fun i => s.size - (intOf i).toNat)
  case atStart => exact ⟨0, by omega, rfl⟩
  case round =>
    obtain ⟨k, hk, rfl⟩ := hrel
    by_cases hlt : k < s.size
    · by_cases h0 : ((s[k]'hlt).toNat : Int) < 32
      · go_wp2_with fail
        go_ret
        exact Says.mk' (Below.refl _ _)
      · by_cases h1 : (126 : Int) < ((s[k]'hlt).toNat : Int)
        · go_wp2_with fail
          go_ret
          exact Says.mk' (Below.refl _ _)
        · go_wp2_with fail
          refine ⟨⟨k + 1, by omega, by go_num⟩, ?_⟩
          simp [intOf]
          omega
    · go_wp2_with fail
      go_ret
      exact Says.mk' (Below.refl _ _)

set_option maxHeartbeats 1000000 in
theorem ztext_any (s : ByteArray) (w : World) (hs : s.size ≤ 256) : Calls Tryz.prog 64 #[.string s] w (Says w) := by
  have hI := Lib.hid (zprintable_any s w (by omega))
  have i32 : (s.size : Int) ≤ 256 := by omega
  go_enter Tryz.func64, Tryz.ntmps64
  go_wp2_with fail
  refine hI.out.mono ?_
  rintro e w1 ⟨⟨b3, rfl⟩, hb⟩
  have hb' := Lib.hid hb; clear hb
  cases b3
  · go_wp2_with fail
    go_ret
    exact Says.mk' hb'.out
  · go_wp2_with fail
    go_ret
    exact Says.mk' hb'.out

set_option maxHeartbeats 1000000 in
theorem ziface_any (s : ByteArray) (w : World) (hs : s.size ≤ 256) : Calls Tryz.prog 65 #[.string s] w (Says w) := by
  have hI := Lib.hid (zvalid_any s w (by omega))
  have hC1 := Lib.hid (fun W => Tryz.strings_Contains_one s 58 W)
  have hC2 := Lib.hid (fun W => Tryz.strings_Contains_one s 33 W)
  generalize decide (0 ≤ Lib.indexByte s.data.toList 58) = c1 at *
  generalize decide (0 ≤ Lib.indexByte s.data.toList 33) = c2 at *
  by_cases h15 : s.size ≤ 15
  · have i15 : (s.size : Int) ≤ 15 := by omega
    go_enter Tryz.func65, Tryz.ntmps65
    go_wp2_with fail
    refine hI.out.mono ?_
    rintro e w1 ⟨⟨b3, rfl⟩, hb⟩
    have hb' := Lib.hid hb; clear hb
    cases b3
    · go_wp2_with fail
      go_ret
      exact Says.mk' hb'.out
    · go_wp2_with fail
      refine (hC1.out _).mono ?_
      rintro e w2 ⟨rfl, rfl⟩
      cases c1
      · go_wp2_with fail
        refine (hC2.out _).mono ?_
        rintro e w3 ⟨rfl, rfl⟩
        go_wp2_with fail
        go_ret
        exact Says.mk' hb'.out
      · go_wp2_with fail
        go_ret
        exact Says.mk' hb'.out
  · have i15 : ¬ (s.size : Int) ≤ 15 := by omega
    go_enter Tryz.func65, Tryz.ntmps65
    go_wp2_with fail
    refine hI.out.mono ?_
    rintro e w1 ⟨⟨b3, rfl⟩, hb⟩
    have hb' := Lib.hid hb; clear hb
    cases b3
    · go_wp2_with fail
      go_ret
      exact Says.mk' hb'.out
    · go_wp2_with fail
      go_ret
      exact Says.mk' hb'.out

set_option maxHeartbeats 1000000 in
theorem zbeneath_any (a b : ByteArray) (w : World) (ha : a.size ≤ 1000000000) : Calls Tryz.prog 70 #[.string a, .string b] w (Says w) := by
  have hI := Lib.hid (fun t => Tryz.strings_HasPrefix b t w)
  have hcat : ¬ (9223372036854775807 < a.size + 1) := by omega
  go_enter Tryz.func70, Tryz.ntmps70
  go_wp2_with fail
  refine (hI.out _).mono ?_
  rintro e w1 ⟨rfl, rfl⟩
  go_wp2_with fail
  go_ret
  exact Says.mk' (Below.refl _ _)

end Go.Proofs.YtinjeijjfkkhbaaGreatDoor

namespace Go.Proofs.YtinjeijjfkkhbaaGreatDoor
open Go.RowKit

def pieceS (s : ByteArray) : List ByteArray := Lib.splitB ⟨#[47]⟩ 0 (Lib.countB s ⟨#[47]⟩) s
theorem split_small (sep : ByteArray) : ∀ (k : Nat) (s x : ByteArray), x ∈ Lib.splitB sep 0 k s → x.size ≤ s.size
  | 0, s, x, h => by
    rw [Lib.splitB_zero] at h
    simp only [List.mem_singleton] at h
    rw [h]; exact Nat.le_refl _
  | k + 1, s, x, h => by
    unfold Lib.splitB at h
    split at h
    · simp only [List.mem_singleton] at h
      rw [h]; exact Nat.le_refl _
    · rcases List.mem_cons.1 h with rfl | h
      · rw [ByteArray.size_extract]; omega
      · have := split_small sep k _ x h
        rw [ByteArray.size_extract] at this
        omega
theorem pieceS_len (s : ByteArray) : (pieceS s).length = Lib.countB s ⟨#[47]⟩ + 1 ∧ (pieceS s).length ≤ s.size + 1 := by
  unfold pieceS
  rw [Lib.splitB_all ⟨#[47]⟩ (by decide) 0 _ s rfl]
  have := Lib.countB_le ⟨#[47]⟩ (by decide) s.size s (Nat.le_refl _)
  omega

set_option maxRecDepth 100000 in
set_option maxHeartbeats 2000000 in
theorem zlink_any (s : ByteArray) (m : Int) (w : World) (hs : s.size ≤ 1000) (hm : w.cell? ⟨0, 0, none⟩ = some (.int .i64 m)) : Calls Tryz.prog 68 #[.string s] w (Says w) := by
  have hS := Tryz.strings_Split s ⟨#[47]⟩ m w (by omega) hm (by decide)
  rw [← (pieceS_len s).1] at hS
  have hS : Calls Tryz.prog 82 #[.string s, .string ⟨#[47]⟩] w fun e w' => e = .returned (.slice (some ⟨w.heap.size, 0, none⟩) (pieceS s).length (pieceS s).length) ∧ w' = w.alloc (.cells ((pieceS s).map Value.string).toArray 9) := hS
  have hl := (pieceS_len s).2
  have hsm : Hid (∀ x ∈ pieceS s, x.size ≤ 1000) := fun x h => Nat.le_trans (split_small _ _ _ x h) hs
  generalize pieceS s = P at *
  have hS' := Lib.hid hS; clear hS hm
  obtain ⟨n, hn⟩ : ∃ n, P.length = n := ⟨_, rfl⟩
  rw [hn] at hS' hl
  have hB : Hid (Blk (w.alloc (.cells (P.map Value.string).toArray 9)) w.heap.size 9 (P.map Value.string).toArray) := Blk.new _ _ _
  have hb0 : Hid (Below w.heap.size w (w.alloc (.cells (P.map Value.string).toArray 9))) := (Below.refl _ _).alloc (Nat.le_refl _) _
  have hn' := Lib.hid hn; clear hn
  by_cases h256 : s.size ≤ 256
  all_goals
    have i256 : decide ((s.size : Int) ≤ 256) = decide (s.size ≤ 256) := by rw [decide_eq_decide]; omega
    go_enter Tryz.func68, Tryz.ntmps68
    go_wp2_with fail
    refine hS'.out.mono ?_
    rintro e w1 ⟨rfl, rfl⟩
    generalize w.alloc (.cells (P.map Value.string).toArray 9) = w1 at *
    go_wp2_with fail
    go_loopw [4] (fun s4 wr => ∃ k : Nat, s4 = .int .i64 k ∧ k ≤ n ∧ Hid (Below w1.heap.size w1 wr)) (fun s4 _ => n - (intOf s4).toNat)
    case atStart => exact ⟨0, rfl, by omega, (show Below w1.heap.size w1 w1 from Below.refl _ _)⟩
    case round =>
      obtain ⟨k, rfl, hk, hb⟩ := hrel
      by_cases hkn : k < n
      · obtain ⟨x, hx⟩ : ∃ x, P[k]? = some x := ⟨_, List.getElem?_eq_getElem (by have := hn'.out; omega)⟩
        have hxs := hsm.out x (List.mem_of_getElem? hx)
        have c0 : wr.cell? ⟨w.heap.size, k, none⟩ = some (.string x) := ((hB.out.below hb.out hB.out.lt).cell k).trans (by simp [hx])
        have ik : (k : Int) < (n : Int) := by omega
        have ik0 : (0 : Int) ≤ (k : Int) := by omega
        have hI := Lib.hid (fun t => zin_any x t wr (by omega))
        obtain ⟨b1, h1⟩ : ∃ b, (x.toList == []) = b := ⟨_, rfl⟩
        obtain ⟨b2, h2⟩ : ∃ b, (x.toList == [46]) = b := ⟨_, rfl⟩
        obtain ⟨b3, h3⟩ : ∃ b, (x.toList == [46, 46]) = b := ⟨_, rfl⟩
        clear hx
        cases b1 with
        | true =>
          go_wp2_with fail
          go_ret
          exact Says.mk' (hb0.out.trans (hb.out.mono hb0.out.size))
        | false =>
          cases b2 with
          | true =>
            go_wp2_with fail
            go_ret
            exact Says.mk' (hb0.out.trans (hb.out.mono hb0.out.size))
          | false =>
            cases b3 with
            | true =>
              go_wp2_with fail
              go_ret
              exact Says.mk' (hb0.out.trans (hb.out.mono hb0.out.size))
            | false =>
              go_wp2_with fail
              refine (hI.out _).mono ?_
              rintro e w2 ⟨⟨b4, rfl⟩, hb2⟩
              have hb3 := Lib.hid (hb.out.trans (hb2.mono hb.out.size)); clear hb2
              cases b4 with
              | false =>
                go_wp2_with fail
                go_ret
                exact Says.mk' (hb0.out.trans (hb3.out.mono hb0.out.size))
              | true =>
                go_wp2_with fail
                go_roundw
                case rel => exact ⟨k + 1, by go_num, by omega, hb3⟩
                case measure => simp [intOf]; omega
      · obtain rfl : k = n := by omega
        go_wp2_with fail
        go_ret
        exact Says.mk' (hb0.out.trans (hb.out.mono hb0.out.size))

/-- A row of texts, to be read. -/
abbrev StrsAt (w : World) (v : Value) (l : List ByteArray) : Prop := RowAt w v 1 (l.map fun s => [.string s])
def SaysI (w : World) (e : Ending) (w' : World) : Prop := (∃ n : Int, e = .returned (.int .i64 n)) ∧ Below w.heap.size w w'
theorem SaysI.mk' {w w' : World} {n : Int} (h : Below w.heap.size w w') : SaysI w (.returned (.int .i64 n)) w' := ⟨⟨n, rfl⟩, h⟩
theorem StrsAt.at {w : World} {a : Option Addr} {n c k : Nat} {l : List ByteArray} (h : StrsAt w (.slice a n c) l) (hk : k < n) : ∃ x g o, l[k]? = some x ∧ a = some ⟨g, o, none⟩ ∧ g < w.heap.size ∧ w.cell? ⟨g, o + k, none⟩ = some (.string x) := by
  rcases h.2 with ⟨h1, _⟩ | ⟨g, o, cap, h1, hg, hc⟩
  · cases h1; omega
  · cases h1
    obtain ⟨x, hx⟩ : ∃ x, l[k]? = some x := ⟨_, List.getElem?_eq_getElem (by simpa using hk)⟩
    have := hc k [.string x] (by rw [List.getElem?_map, hx]; rfl) 0 _ rfl
    rw [Nat.mul_one, Nat.add_zero] at this
    exact ⟨x, g, o, hx, rfl, hg, this⟩

set_option maxRecDepth 100000 in
set_option maxHeartbeats 2000000 in
theorem zcompare_any (la lb : List ByteArray) (a b : Option Addr) (n c m d : Nat) (w : World) (ha : StrsAt w (.slice a n c) la) (hb : StrsAt w (.slice b m d) lb) (hn : n ≤ 1000000) (hm : m ≤ 1000000) :
    Calls Tryz.prog 42 #[.slice a n c, .slice b m d] w (SaysI w) := by
  have ha' := Lib.hid ha; clear ha
  have hb' := Lib.hid hb; clear hb
  go_enter Tryz.func42, Tryz.ntmps42
  go_wp2_with fail
  go_loopw [5] (fun s5 wr => ∃ k : Nat, s5 = .int .i64 k ∧ k ≤ n ∧ k ≤ m ∧ Hid (∃ q, wr = w.drewN q)) (fun s5 _ => n - (intOf s5).toNat)
  case atStart => exact ⟨0, rfl, by omega, by omega, (show ∃ q, w = w.drewN q from ⟨0, rfl⟩)⟩
  case round =>
    obtain ⟨k, rfl, hk, hk2, hq⟩ := hrel
    have hbw : Hid (Below w.heap.size w wr) := by
      obtain ⟨q, rfl⟩ := hq.out
      exact below_drawN (Below.refl _ _) q
    have ik0 : (0 : Int) ≤ (k : Int) := by omega
    by_cases hkn : k < n
    · have ik : (k : Int) < (n : Int) := by omega
      by_cases hkm : k < m
      · have jk : (k : Int) < (m : Int) := by omega
        obtain ⟨x, g, o, hx, rfl, hg, cx⟩ := ha'.out.at hkn
        obtain ⟨y, g2, o2, hy, rfl, hg2, cy⟩ := hb'.out.at hkm
        have dx : wr.cell? ⟨g, o + k, none⟩ = some (.string x) := (World.cell?_of_block (hbw.out.block g hg)).trans cx
        have dy : wr.cell? ⟨g2, o2 + k, none⟩ = some (.string y) := (World.cell?_of_block (hbw.out.block g2 hg2)).trans cy
        clear cx cy hx hy
        obtain ⟨t, ht⟩ : ∃ t, (x.toList == y.toList) = t := ⟨_, rfl⟩
        have hC := Lib.hid (fun W => Tryz.strings_Compare x y W)
        generalize Lib.compareBytes x.data.toList y.data.toList = cmp at *
        go_wp2_with fail
        go_quiet (fail)
        cases t with
        | false =>
          have dx2 : (wr.drewN nq).cell? ⟨g, o + k, none⟩ = some (.string x) := dx
          have dy2 : (wr.drewN nq).cell? ⟨g2, o2 + k, none⟩ = some (.string y) := dy
          have hb3 := Lib.hid (below_drawN hbw.out nq)
          clear hq hbw dx dy
          generalize wr.drewN nq = wq at *
          go_wp2_with fail
          go_quiet ((go_at_call 69; exact Calls.quiet_of_same (hC.out _)))
          go_wp2_with fail
          go_ret
          exact SaysI.mk' (below_drawN hb3.out _)
        | true =>
          have hq2 : Hid (∃ q, wr.drewN nq = w.drewN q) := by
            obtain ⟨q, rfl⟩ := hq.out
            exact ⟨_, World.drewN_drewN _ _ _⟩
          go_wp2_with fail
          go_roundw
          case rel => exact ⟨k + 1, by go_num, by omega, by omega, hq2⟩
          case measure => simp [intOf]; omega
      · obtain rfl : k = m := by omega
        go_wp2_with fail
        go_ret
        exact SaysI.mk' hbw.out
    · obtain rfl : k = n := by omega
      by_cases hlt : k < m
      · have i1 : (k : Int) < (m : Int) := by omega
        go_wp2_with fail
        go_ret
        exact SaysI.mk' hbw.out
      · obtain rfl : k = m := by omega
        go_wp2_with fail
        go_ret
        exact SaysI.mk' hbw.out

end Go.Proofs.YtinjeijjfkkhbaaGreatDoor
