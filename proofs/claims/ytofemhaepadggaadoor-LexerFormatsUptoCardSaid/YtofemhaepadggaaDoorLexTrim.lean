/-
  THE WALKS of strings.TrimLeft at a set of bytes below 128, and of lexer.blank.
-/
import Derived.Test.YtofemhaepadggaaDoorLexPlain
namespace Go.Proofs.YtofemhaepadggaaDoor
open Go.RowKit

def inSet (set : ByteArray) (c : Nat) : Bool := (bs set).contains c
theorem inSet_at (set : ByteArray) (x : UInt8) : set.data.toList.contains x = inSet set x.toNat := by
  unfold inSet
  rw [List.contains_eq_mem, List.contains_eq_mem, bs_data]
  refine decide_eq_decide.2 ⟨fun h => List.mem_map.2 ⟨x, h, rfl⟩, fun h => ?_⟩
  obtain ⟨y, hy, he⟩ := List.mem_map.1 h
  rwa [← UInt8.toNat_inj.1 he]
def sizeV : Value → Nat
  | .string t => t.size
  | _ => 0
theorem bs_head {s : ByteArray} (h : 0 < s.size) : bs s = (s[0]'h).toNat :: (bs s).drop 1 := by
  have h0 := get_bs s 0 h
  cases hb : bs s with
  | nil => rw [hb] at h0; cases h0
  | cons a r =>
    rw [hb] at h0
    simp at h0
    rw [h0]; rfl

theorem zero_set : Tryd.zeroCells89 = Lib.setCells [] := by kernel_rfl
theorem size_set (l : List UInt8) : (Tryd.prog.info? 89).map (·.size) = some (Lib.setCells l).size := by
  rw [Lib.setCells_size]; kernel_rfl
theorem one_set (l : List UInt8) : (Lib.setCells l).all (·.oneCell') = true := by
  rw [Lib.setCells_eq, Array.all_eq_true_iff_forall_mem]
  intro v hv
  obtain ⟨i, _, rfl⟩ := Array.mem_map.1 hv
  rfl

set_option maxHeartbeats 1000000 in
theorem trimA_any (set s : ByteArray) (b : Nat) (w : World) (hs : s.size ≤ 1000000000) (hB : Blk w b 89 (Lib.setCells set.data.toList)) :
    Calls Tryd.prog 57 #[.string s, .pointer (some ⟨b, 0, none⟩)] w fun e w' => (∃ t : ByteArray, e = .returned (.string t) ∧ bs t = (bs s).dropWhile (inSet set)) ∧ Below w.heap.size w w' := by
  have hC : ∀ x : UInt8, Calls Tryd.prog 75 #[.pointer (some ⟨b, 0, none⟩), .int .u8 x.toNat] w fun e w' => e = .returned (.bool (inSet set x.toNat)) ∧ w' = w := fun x =>
    Tryd.asciiSet_contains b x (inSet set x.toNat) w (by rw [hB.cell x.toNat, Lib.setCells_at, inSet_at])
  have hC' := Lib.hid hC; clear hC hB
  go_enter Tryd.func57, Tryd.ntmps57
  go_wp2_with fail
  go_loopw [0] (fun s0 wr => ∃ t : ByteArray, s0 = .string t ∧ t.size ≤ 1000000000 ∧ Hid (wr = w) ∧ Hid ((bs t).dropWhile (inSet set) = (bs s).dropWhile (inSet set))) (fun s0 _ => sizeV s0)
  case atStart => exact ⟨s, rfl, hs, (by first | exact rfl | exact trivial), (by first | exact rfl | exact trivial)⟩
  case round =>
    obtain ⟨t, rfl, ht, hw, hd⟩ := hrel
    obtain rfl : wr = w := hw.out
    by_cases h0 : 0 < t.size
    · have i0 : (0 : Int) < (t.size : Int) := by omega
      have i1 : (1 : Int) ≤ (t.size : Int) := by omega
      have hx := hC'.out (t[0]'h0)
      have hhd := bs_head h0
      cases hb : inSet set (t[0]'h0).toNat with
      | true =>
        have hd2 : Hid ((bs (t.extract 1 t.size)).dropWhile (inSet set) = (bs s).dropWhile (inSet set)) := by
          unfold Hid
          rw [← hd.out, bs_extract, hhd, List.dropWhile_cons, hb]
          rfl
        rw [hb] at hx
        have hx' := Lib.hid hx; clear hx hb hhd hd
        go_wp2_with fail
        refine hx'.out.mono ?_
        rintro e v1 ⟨rfl, rfl⟩
        go_wp2_with fail
        go_roundw
        case rel => exact ⟨_, rfl, by rw [size_rest]; omega, (by first | exact rfl | exact trivial), hd2⟩
        case measure => simp [sizeV]; omega
      | false =>
        have hd2 : Hid (bs t = (bs s).dropWhile (inSet set)) := by
          unfold Hid
          rw [← hd.out, hhd, List.dropWhile_cons, hb]
          rfl
        rw [hb] at hx
        have hx' := Lib.hid hx; clear hx hb hhd hd
        go_wp2_with fail
        refine hx'.out.mono ?_
        rintro e v1 ⟨rfl, rfl⟩
        go_wp2_with fail
        go_ret
        exact ⟨⟨t, rfl, hd2.out⟩, Below.refl _ _⟩
    · have i0 : ¬ (0 : Int) < (t.size : Int) := by omega
      have hnil : bs t = [] := List.eq_nil_of_length_eq_zero (by rw [length_bs]; omega)
      have hd2 : Hid (bs t = (bs s).dropWhile (inSet set)) := by
        unfold Hid
        rw [← hd.out, hnil]; rfl
      clear hd
      go_wp2_with fail
      go_ret
      exact ⟨⟨t, rfl, hd2.out⟩, Below.refl _ _⟩

set_option maxHeartbeats 1000000 in
theorem trim_any (set s : ByteArray) (w : World) (hs : s.size ≤ 1000000000) (h2 : 2 ≤ set.size) (h3 : set.size ≤ 100) (hasc : ∀ (j : Nat) b, set.data.toList[j]? = some b → b.toNat < 128) :
    Calls Tryd.prog 31 #[.string s, .string set] w fun e w' => (∃ t : ByteArray, e = .returned (.string t) ∧ bs t = (bs s).dropWhile (inSet set)) ∧ Below w.heap.size w w' := by
  by_cases h0 : 0 < s.size
  · have e1 : (s.toList == []) = false := list_ne s h0
    have e2 : (set.toList == []) = false := list_ne set (by omega)
    have i2 : ((set.size : Int) == 1) = false := beq_eq_false_iff_ne.2 (by omega)
    have hM := Tryd.strings_makeASCIISet (fun w => by kernel_rfl) set w (by omega) hasc
    have hM' := Lib.hid hM; clear hM
    have hT := fun b W hB => trimA_any set s b W hs hB
    have hT' := Lib.hid hT; clear hT
    go_enter Tryd.func31, Tryd.ntmps31
    go_wp2_with fail
    refine hM'.out.mono ?_
    rintro e v1 ⟨rfl, rfl⟩
    have hz : Blk ((w.alloc (.cells (Lib.setCells set.data.toList) 89)).alloc (.cells Tryd.zeroCells89 89)) (w.heap.size + 1) 89 (Lib.setCells []) := by
      rw [← zero_set]
      exact Blk.new_ _ _ _ (by simp)
    have hz' := Lib.hid hz; clear hz
    go_wp2_with (refine wpList_store_row rfl 89 (.tmp 5) (.tmp 29) rfl (w.heap.size + 1) _ rfl rfl 89 _ hz'.out (size_set _) (by rw [Lib.setCells_size, Lib.setCells_size]) (one_set _) ?_)
    have hB2 := hz'.out.row (Lib.setCells set.data.toList)
    have hk : Below w.heap.size w (((w.alloc (.cells (Lib.setCells set.data.toList) 89)).alloc (.cells Tryd.zeroCells89 89)).setRow (w.heap.size + 1) (Lib.setCells set.data.toList)) :=
      below_row (((Below.refl _ _).alloc (Nat.le_refl _) _).alloc (by simp) _) (by omega) _
    have hk' := Lib.hid hk; clear hk
    refine (hT'.out _ _ hB2).mono ?_
    rintro e v2 ⟨⟨t, rfl, ht⟩, hb2⟩
    have hk2 := Lib.hid (hk'.out.trans (hb2.mono hk'.out.size))
    have ht' := Lib.hid ht
    clear hb2 ht hB2 hk' hz' hM' hT'
    go_wp2_with fail
    go_ret
    exact ⟨⟨t, rfl, ht'.out⟩, hk2.out⟩
  · have e1 : (s.toList == []) = true := list_emp (by omega)
    have hnil : bs s = [] := List.eq_nil_of_length_eq_zero (by rw [length_bs]; omega)
    go_enter Tryd.func31, Tryd.ntmps31
    go_wp2_with fail
    go_ret
    exact ⟨⟨s, rfl, by rw [hnil]; rfl⟩, Below.refl _ _⟩

theorem sepT_set : inSet ⟨#[32, 9]⟩ = sepT := by
  funext c
  unfold inSet sepT
  have e : bs ⟨#[32, 9]⟩ = [32, 9] := by decide
  rw [e]
  simp
theorem sepL_set : inSet ⟨#[32, 9, 44]⟩ = L.sepL := by
  funext c
  unfold inSet L.sepL
  have e : bs ⟨#[32, 9, 44]⟩ = [32, 9, 44] := by decide
  rw [e]
  simp [Bool.or_assoc]
theorem asc2 : ∀ (j : Nat) (b : UInt8), (⟨#[32, 9]⟩ : ByteArray).data.toList[j]? = some b → b.toNat < 128 := by
  intro j b h
  have hm : b ∈ [32, 9] := List.mem_of_getElem? h
  simp at hm
  rcases hm with rfl | rfl <;> decide
theorem asc3 : ∀ (j : Nat) (b : UInt8), (⟨#[32, 9, 44]⟩ : ByteArray).data.toList[j]? = some b → b.toNat < 128 := by
  intro j b h
  have hm : b ∈ [32, 9, 44] := List.mem_of_getElem? h
  simp at hm
  rcases hm with rfl | rfl | rfl <;> decide
theorem trimT_any (s : ByteArray) (w : World) (hs : s.size ≤ 1000000000) :
    Calls Tryd.prog 31 #[.string s, .string ⟨#[32, 9]⟩] w fun e w' => (∃ t : ByteArray, e = .returned (.string t) ∧ bs t = (bs s).dropWhile sepT) ∧ Below w.heap.size w w' := by
  rw [← sepT_set]
  exact trim_any ⟨#[32, 9]⟩ s w hs (by decide) (by decide) asc2
theorem trimL_any (s : ByteArray) (w : World) (hs : s.size ≤ 1000000000) :
    Calls Tryd.prog 31 #[.string s, .string ⟨#[32, 9, 44]⟩] w fun e w' => (∃ t : ByteArray, e = .returned (.string t) ∧ bs t = (bs s).dropWhile L.sepL) ∧ Below w.heap.size w w' := by
  rw [← sepL_set]
  exact trim_any ⟨#[32, 9, 44]⟩ s w hs (by decide) (by decide) asc3

def blankB (s : ByteArray) : Bool := blankL (bs s)
theorem blank_any (s : ByteArray) (w : World) (hs : s.size ≤ 1000000000) : Calls Tryd.prog 42 #[.string s] w fun e w' => e = .returned (.bool (blankB s)) ∧ Below w.heap.size w w' := by
  have hT' := Lib.hid (fun W => trimT_any s W hs)
  unfold blankB blankL
  cases hd : (bs s).dropWhile sepT with
  | nil =>
    have hd' := Lib.hid hd; clear hd
    go_enter Tryd.func42, Tryd.ntmps42
    go_wp2_with fail
    refine (hT'.out _).mono ?_
    rintro e v1 ⟨⟨t, rfl, ht⟩, hb1⟩
    have hz : t.size = 0 := by rw [← length_bs, ht, hd'.out]; rfl
    have e1 : (t.toList == []) = true := list_emp hz
    have hb1' := Lib.hid hb1; clear hb1 ht hz
    go_wp2_with fail
    go_ret
    exact ⟨rfl, hb1'.out⟩
  | cons c r =>
    have hd' := Lib.hid hd; clear hd
    by_cases h35 : c = 35
    · show Calls _ _ _ _ fun e w' => e = .returned (.bool (decide (c = 35))) ∧ _
      rw [decide_eq_true h35]
      go_enter Tryd.func42, Tryd.ntmps42
      go_wp2_with fail
      refine (hT'.out _).mono ?_
      rintro e v1 ⟨⟨t, rfl, ht⟩, hb1⟩
      have hz : 0 < t.size := by rw [← length_bs, ht, hd'.out]; simp
      have e1 : (t.toList == []) = false := list_ne t hz
      have i0 : (0 : Int) < (t.size : Int) := by omega
      have hc : (t[0]'hz).toNat = c := by
        have h1 := bs_head hz
        rw [ht, hd'.out] at h1
        exact (List.cons.inj h1).1.symm
      have i35 : ((t[0]'hz).toNat : Int) = 35 := by omega
      have hb1' := Lib.hid hb1; clear hb1 ht hc
      go_wp2_with fail
      go_ret
      exact ⟨by first | rfl | simp [i35], hb1'.out⟩
    · show Calls _ _ _ _ fun e w' => e = .returned (.bool (decide (c = 35))) ∧ _
      rw [decide_eq_false h35]
      go_enter Tryd.func42, Tryd.ntmps42
      go_wp2_with fail
      refine (hT'.out _).mono ?_
      rintro e v1 ⟨⟨t, rfl, ht⟩, hb1⟩
      have hz : 0 < t.size := by rw [← length_bs, ht, hd'.out]; simp
      have e1 : (t.toList == []) = false := list_ne t hz
      have i0 : (0 : Int) < (t.size : Int) := by omega
      have hc : (t[0]'hz).toNat = c := by
        have h1 := bs_head hz
        rw [ht, hd'.out] at h1
        exact (List.cons.inj h1).1.symm
      have i35 : ¬ ((t[0]'hz).toNat : Int) = 35 := by omega
      have hb1' := Lib.hid hb1; clear hb1 ht hc
      go_wp2_with fail
      go_ret
      exact ⟨by first | rfl | simp [i35], hb1'.out⟩

end Go.Proofs.YtofemhaepadggaaDoor
