/-
  THE WALKS of coldplugref03.Node, Sorted, coldplugref04.index, clash: that they answer, and turn no older block.
-/
import Derived.Test.YtinjeijjfkkhbaaGreatDoorZLink
import Derived.Test.YtinjeijjfkkhbaaGreatDoorTreeFirst
namespace Go.Proofs.YtinjeijjfkkhbaaGreatDoor
open Go.RowKit

theorem replK_len (old new : List UInt8) : ∀ (k : Nat) (s : List UInt8), (Lib.replaceK old new k s).length ≤ s.length + k * new.length
  | 0, s => by simp [Lib.replaceK]
  | k + 1, s => by
    unfold Lib.replaceK
    split
    · exact Nat.le_add_right _ _
    · have := replK_len old new k (s.drop ((Lib.index s old).toNat + old.length))
      simp only [List.length_append, List.length_take, List.length_drop, Nat.succ_mul] at *
      omega
theorem repl_len (s : List UInt8) (hs : s.length ≤ 100) : (Lib.replaceAll s [33] [47]).length ≤ 300 := by
  unfold Lib.replaceAll Lib.replace
  split
  · omega
  · have h1 := replK_len [33] [47] (Lib.replaceNum s [33] (-1)) s
    have h2 : Lib.replaceNum s [33] (-1) = Lib.count s [33] := by unfold Lib.replaceNum; rw [if_pos (.inl (by decide))]
    have h3 := Lib.count_le s [33]
    rw [h2] at h1 ⊢
    simp at h1
    omega
/-- The library's own number lies in block 0. -/
def MaxIs (m : Int) (w : World) : Prop := w.cell? ⟨0, 0, none⟩ = some (.int .i64 m)
theorem MaxIs.lt {m : Int} {w : World} (h : MaxIs m w) : 0 < w.heap.size := World.block_lt_of_cell? w ⟨0, 0, none⟩ h
theorem MaxIs.below {m : Int} {w w' : World} (h : MaxIs m w) (hb : Below w.heap.size w w') : MaxIs m w' := (World.cell?_of_block (hb.block 0 h.lt)).trans h
def NodePost (w : World) (e : Ending) (w' : World) : Prop := (∃ (s : ByteArray) (ok : Bool), e = .returned (.tuple #[.string s, .bool ok]) ∧ s.size ≤ 300) ∧ Below w.heap.size w w'

set_option maxRecDepth 100000 in
set_option maxHeartbeats 2000000 in
theorem znode_any (d : Dev) (m : Int) (w : World) (ho : d.orig.size ≤ 100) (hm : MaxIs m w) : Calls Tryz.prog 66 #[devV d] w (NodePost w) := by
  obtain ⟨x0, x1, x2, x3, x4, x5, x6, x7, x8, xa, xn, xc, xt⟩ := d
  unfold devV
  simp only at ho ⊢
  have hb0 : Hid (Below w.heap.size w (w.alloc (.cells #[.int .i64 x0, .int .i64 x1, .string x2, .string x3, .string x4, .string x5, .string x6, .int .i64 x7, .int .i64 x8, .slice xa xn xc] 40))) := (Below.refl _ _).alloc (Nat.le_refl _) _
  have hR := Lib.hid (Tryz.strings_ReplaceAll x3 ⟨#[33]⟩ ⟨#[47]⟩ m _ (by omega) (hm.below hb0.out) (by decide) (by
    have := Lib.countB_le ⟨#[33]⟩ (by decide) x3.size x3 (Nat.le_refl _)
    have e : (⟨#[47]⟩ : ByteArray).size = 1 := rfl
    rw [e]
    omega))
  have hsz : (⟨(Lib.replaceAll x3.data.toList (⟨#[33]⟩ : ByteArray).data.toList (⟨#[47]⟩ : ByteArray).data.toList).toArray⟩ : ByteArray).size ≤ 300 := repl_len x3.data.toList (by simpa using ho)
  generalize (⟨(Lib.replaceAll x3.data.toList (⟨#[33]⟩ : ByteArray).data.toList (⟨#[47]⟩ : ByteArray).data.toList).toArray⟩ : ByteArray) = y at *
  by_cases h2 : x7 = 2
  · subst h2
    go_enter Tryz.func66, Tryz.ntmps66
    go_wp2_with fail
    refine hR.out.mono ?_
    rintro e w2 ⟨rfl, hb⟩
    go_wp2_with fail
    go_ret2
    exact ⟨⟨_, _, rfl, hsz⟩, hb0.out.trans (hb.mono hb0.out.size)⟩
  · have n2 : (x7 != 2) = true := by simpa using h2
    have e2 : (x7 == 2) = false := beq_eq_false_iff_ne.2 h2
    by_cases h3 : x7 = 3
    · subst h3
      go_enter Tryz.func66, Tryz.ntmps66
      go_wp2_with fail
      refine hR.out.mono ?_
      rintro e w2 ⟨rfl, hb⟩
      go_wp2_with fail
      go_ret2
      exact ⟨⟨_, _, rfl, hsz⟩, hb0.out.trans (hb.mono hb0.out.size)⟩
    · have n3 : (x7 != 3) = true := by simpa using h3
      have e3 : (x7 == 3) = false := beq_eq_false_iff_ne.2 h3
      go_enter Tryz.func66, Tryz.ntmps66
      go_wp2_with fail
      go_ret2
      exact ⟨⟨_, _, rfl, by decide⟩, hb0.out⟩

set_option maxRecDepth 100000 in
set_option maxHeartbeats 2000000 in
theorem zsorted_any (l : List Att) (v : Value) (w : World) (hl : RowAt w v 2 (l.map attC)) (hn : l.length ≤ 1000000) : Calls Tryz.prog 67 #[v] w (Says w) := by
  obtain ⟨_, hl2⟩ := hl
  rcases hl2 with ⟨rfl, h0⟩ | ⟨g, o, cap, rfl, hg, hc⟩
  · go_enter Tryz.func67, Tryz.ntmps67
    go_wp2_with fail
    go_loopw [3] (fun s3 wr => s3 = .int .i64 1 ∧ wr = w) (fun _ _ => 0)
    case atStart => exact ⟨rfl, rfl⟩
    case round =>
      obtain ⟨rfl, rfl⟩ := hrel
      go_wp2_with fail
      go_ret
      exact Says.mk' (Below.refl _ _)
  · rw [List.length_map]
    obtain ⟨n, hn'⟩ : ∃ n, l.length = n := ⟨_, rfl⟩
    rw [hn'] at hn ⊢
    have hc' : Hid (∀ (k : Nat), k < n → ∃ x : Att, w.cell? ⟨g, o + k * 2, none⟩ = some (.string x.1)) := fun k hk => by
      obtain ⟨x, hx⟩ : ∃ x, l[k]? = some x := ⟨_, List.getElem?_eq_getElem (by omega)⟩
      exact ⟨x, hc k (attC x) (by rw [List.getElem?_map, hx]; rfl) 0 _ rfl⟩
    clear hc hn'
    go_enter Tryz.func67, Tryz.ntmps67
    go_wp2_with fail
    go_loopw [3] (fun s3 wr => ∃ k : Nat, s3 = .int .i64 k ∧ 1 ≤ k ∧ Hid (Below w.heap.size w wr)) (fun s3 _ => n - (intOf s3).toNat)
    case atStart => exact ⟨1, rfl, by omega, (show Below w.heap.size w w from Below.refl _ _)⟩
    case round =>
      obtain ⟨k, rfl, hk, hb⟩ := hrel
      by_cases hkn : k < n
      · obtain ⟨j, rfl⟩ : ∃ j, k = j + 1 := ⟨k - 1, by omega⟩
        obtain ⟨x, cx⟩ := hc'.out j (by omega)
        obtain ⟨y, cy⟩ := hc'.out (j + 1) hkn
        have dx : wr.cell? ⟨g, o + j * 2, none⟩ = some (.string x.1) := (World.cell?_of_block (hb.out.block g hg)).trans cx
        have dy : wr.cell? ⟨g, o + (j + 1) * 2, none⟩ = some (.string y.1) := (World.cell?_of_block (hb.out.block g hg)).trans cy
        have ik : ((j + 1 : Nat) : Int) < (n : Int) := by omega
        have ij0 : (0 : Int) ≤ (j : Int) := by omega
        have ij1 : (j : Int) < (n : Int) := by omega
        have ik2 : (j : Int) + 1 < (n : Int) := by omega
        have ik3 : (0 : Int) ≤ (j : Int) + 1 := by omega
        have iw : IntKind.i64.wrap ((j : Int) + 1 - 1) = (j : Int) := by rw [IntWalk.i64_in _ (by omega)]; omega
        obtain ⟨x1, xv⟩ := x
        obtain ⟨y1, yv⟩ := y
        dsimp only at dx dy
        obtain ⟨t, ht⟩ : ∃ t, Op.bytesLess x1.toList y1.toList = t := ⟨_, rfl⟩
        clear cx cy
        go_wp2_with fail
        go_quiet (fail)
        have hb2 := Lib.hid (below_drawN hb.out nq)
        cases t with
        | false =>
          go_wp2_with fail
          go_ret
          exact Says.mk' hb2.out
        | true =>
          go_wp2_with fail
          go_roundw
          case rel => exact ⟨j + 1 + 1, by go_num, by omega, hb2⟩
          case measure => simp [intOf]; omega
      · have ik : ¬ (k : Int) < (n : Int) := by omega
        go_wp2_with fail
        go_ret
        exact Says.mk' hb.out

/-- Where the reference finds a device: nowhere, or at a place whose number it is, the first such. -/
theorem DevsAt.cell {w wr : World} {a : Option Addr} {n c k : Nat} {l : List Dev} (h : DevsAt w (.slice a n c) l) (hb : Below w.heap.size w wr) (hk : k < n) : ∃ d g o, l[k]? = some d ∧ a = some ⟨g, o, none⟩ ∧ ∀ (j : Nat) (u : Value), (devC d)[j]? = some u → wr.cell? ⟨g, o + k * 10 + j, none⟩ = some u := by
  rcases h.1.2 with ⟨h1, h0⟩ | ⟨g, o, cap, h1, hg, hc⟩
  · cases h1; omega
  · cases h1
    obtain ⟨d, hd⟩ : ∃ d, l[k]? = some d := ⟨_, List.getElem?_eq_getElem (by simpa using hk)⟩
    exact ⟨d, g, o, hd, rfl, fun j u hu => (World.cell?_of_block (hb.block g hg)).trans (hc k (devC d) (by rw [List.getElem?_map, hd]; rfl) j u hu)⟩
theorem DevsAt.len {w : World} {a : Option Addr} {n c : Nat} {l : List Dev} (h : DevsAt w (.slice a n c) l) : l.length = n := by
  rcases h.1.2 with ⟨h1, h0⟩ | ⟨g, o, cap, h1, _⟩
  · cases h1; rw [List.map_eq_nil_iff] at h0; rw [h0]; rfl
  · cases h1; simp
def refIdx (l : List Dev) (i : Int) : Int := match l.findIdx? (fun d => d.idx == i) with
  | some k => k
  | none => -1

set_option maxRecDepth 100000 in
set_option maxHeartbeats 2000000 in
theorem zindex_any (l : List Dev) (a : Option Addr) (n c : Nat) (i : Int) (w : World) (hl : DevsAt w (.slice a n c) l) (hn : n ≤ 1000000) :
    Calls Tryz.prog 40 #[.slice a n c, .int .i64 i] w fun e w' => e = .returned (.int .i64 (refIdx l i)) ∧ Below w.heap.size w w' := by
  obtain ⟨R, hR⟩ : ∃ R, refIdx l i = R := ⟨_, rfl⟩
  rw [hR]
  have hR' := Lib.hid hR; clear hR
  have hl' := Lib.hid hl; clear hl
  have hln := Lib.hid hl'.out.len
  go_enter Tryz.func40, Tryz.ntmps40
  go_wp2_with fail
  go_loopw [5] (fun s5 wr => ∃ k : Nat, s5 = .int .i64 k ∧ k ≤ n ∧ Hid (∀ d ∈ l.take k, d.idx ≠ i) ∧ Hid (Below w.heap.size w wr)) (fun s5 _ => n - (intOf s5).toNat)
  case atStart => exact ⟨0, rfl, by omega, (show ∀ d ∈ l.take 0, d.idx ≠ i from fun d hd => by simp at hd), (show Below w.heap.size w w from Below.refl _ _)⟩
  case round =>
    obtain ⟨k, rfl, hk, hno, hb⟩ := hrel
    have ik0 : (0 : Int) ≤ (k : Int) := by omega
    by_cases hkn : k < n
    · have ik : (k : Int) < (n : Int) := by omega
      obtain ⟨d, g, o, hd, rfl, hc⟩ := hl'.out.cell hb.out hkn
      have c0 := hc 0 _ rfl
      simp only [Nat.add_zero] at c0
      have hd' := Lib.hid hd; clear hd hc
      by_cases hi : d.idx = i
      · have bi : (d.idx == i) = true := by rw [beq_iff_eq]; exact hi
        have hres : R = (k : Int) := by
          rw [← hR'.out]
          unfold refIdx
          rw [(List.findIdx?_eq_some_iff_getElem).2 ⟨(List.getElem?_eq_some_iff.1 hd'.out).1, by rw [(List.getElem?_eq_some_iff.1 hd'.out).2]; exact bi, fun j hj => by
            have hjl : j < l.length := Nat.lt_trans hj (List.getElem?_eq_some_iff.1 hd'.out).1
            have := hno.out (l[j]) (List.mem_take_iff_getElem.2 ⟨j, by omega, rfl⟩)
            simpa using this⟩]
        subst hres
        clear hR' hno
        go_wp2_with fail
        go_ret
        exact ⟨rfl, hb.out⟩
      · have bi : (d.idx == i) = false := beq_eq_false_iff_ne.2 hi
        have hno2 : Hid (∀ d ∈ l.take (k + 1), d.idx ≠ i) := fun x hx => by
          rw [List.take_add_one, hd'.out] at hx
          rcases List.mem_append.1 hx with hx | hx
          · exact hno.out x hx
          · simp at hx; subst hx; exact hi
        clear hno
        go_wp2_with fail
        go_roundw
        case rel => exact ⟨k + 1, by go_num, by omega, hno2, hb⟩
        case measure => simp [intOf]; omega
    · obtain rfl : k = n := by omega
      have hres : R = -1 := by
        rw [← hR'.out]
        unfold refIdx
        rw [List.findIdx?_eq_none_iff.2 fun x hx => by
          have := hno.out x (by rw [List.take_of_length_le (by have := hln.out; omega)]; exact hx)
          simpa using this]
      subst hres
      clear hR' hno
      go_wp2_with fail
      go_ret
      exact ⟨rfl, hb.out⟩

end Go.Proofs.YtinjeijjfkkhbaaGreatDoor
