/-
  THE WALKS of the reference's sets of bytes and of its Key: what name.Key answers.
-/
import Derived.Test.YtgjnohkcnfdmkaaDoorKeyFn
import Derived.Test.YtgjnohkcnfdmkaaDoorShelf
namespace Go.Proofs.YtgjnohkcnfdmkaaDoor
open Go.RowKit

theorem indexByte_neg {l : List UInt8} {c : UInt8} : Lib.indexByte l c < 0 ↔ c ∉ l := by
  induction l with
  | nil => simp [Lib.indexByte]
  | cons b l ih =>
    have hge := Lib.indexByte_ge l c
    unfold Lib.indexByte
    by_cases hb : b = c
    · subst hb; simp
    · rw [if_neg (by simpa using hb)]
      by_cases hm : Lib.indexByte l c = -1
      · rw [if_pos (by simpa using hm)]
        have : c ∉ l := ih.1 (by omega)
        simp [this, Ne.symm hb]
      · rw [if_neg (by simpa using hm)]
        have : ¬ (c ∉ l) := fun h => by have := ih.2 h; omega
        simp only [List.mem_cons, not_or]
        constructor
        · intro h; omega
        · intro h; exact absurd h.2 this
def inS (s set : List Nat) : Bool := s.all fun b => set.contains b
theorem contains_bs (set : ByteArray) (c : UInt8) : (bs set).contains c.toNat = decide (c ∈ set.data.toList) := by
  have : (c.toNat ∈ bs set) ↔ c ∈ set.data.toList := by
    unfold bs
    rw [List.mem_map]
    constructor
    · rintro ⟨d, hd, he⟩
      have : d = c := UInt8.toNat_inj.1 he
      rwa [← this]
    · intro h; exact ⟨c, h, rfl⟩
  rw [List.contains_eq_mem]
  exact decide_eq_decide.2 this

set_option maxHeartbeats 1000000 in
theorem in_any (s set : ByteArray) (w : World) (hs : s.size ≤ 1000000000000) :
    Calls Tryd.prog 47 #[.string s, .string set] w fun e w' => e = .returned (.bool (inS (bs s) (bs set))) ∧ Below w.heap.size w w' := by
  have hI : ∀ (c : UInt8) W, Calls Tryd.prog 59 #[.string set, .int .u8 c.toNat] W fun e w' => e = .returned (.int .i64 (Lib.indexByte set.data.toList c)) ∧ w' = W := fun c W => by
    have := Tryd.strings_IndexByte set c.toNat W
    have e : ((c.toNat : Int)).toNat.toUInt8 = c := by simp
    rw [e] at this
    exact this
  have hI' := Lib.hid hI; clear hI
  go_enter Tryd.func47, Tryd.ntmps47
  go_wp2_with fail
  go_loopw [5] (fun s5 wr => ∃ k : Nat, s5 = .int .i64 k ∧ k ≤ s.size ∧ Hid (inS ((bs s).take k) (bs set) = true) ∧ Below w.heap.size w wr) (fun s5 _ => s.size - (intOf s5).toNat)
  case atStart => exact ⟨0, rfl, by omega, by simp [Hid, inS], Below.refl _ _⟩
  case round =>
    obtain ⟨k, rfl, hk, ha, hb⟩ := hrel
    by_cases hks : k < s.size
    · have hpk := get_bs s k hks
      have hC := hI'.out (s[k]'hks) wr
      have hC' := Lib.hid hC; clear hC
      by_cases hin : (s[k]'hks) ∈ set.data.toList
      · have hnn : ¬ Lib.indexByte set.data.toList (s[k]'hks) < 0 := fun h => indexByte_neg.1 h hin
        have hfin : inS ((bs s).take (k + 1)) (bs set) = true := by
          unfold inS
          rw [List.take_add_one, hpk, List.all_append]
          have h0 := ha.out
          unfold inS at h0
          rw [h0]
          simp only [Option.toList_some, List.all_cons, List.all_nil, Bool.and_true, Bool.true_and]
          rw [contains_bs]
          exact decide_eq_true hin
        have hfin' := Lib.hid hfin; clear hfin ha hin hpk
        have hb' := Lib.hid hb; clear hb
        generalize Lib.indexByte set.data.toList (s[k]'hks) = z at *
        go_wp2_with fail
        refine hC'.out.mono ?_
        rintro e v1 ⟨rfl, rfl⟩
        go_wp2_with fail
        go_roundw
        case rel => exact ⟨k + 1, by go_num, by omega, hfin'.out, hb'.out⟩
        case measure => simp [intOf]; omega
      · have hnn : Lib.indexByte set.data.toList (s[k]'hks) < 0 := indexByte_neg.2 hin
        have hfin : inS (bs s) (bs set) = false := by
          unfold inS
          rw [List.all_eq_false]
          refine ⟨_, List.mem_of_getElem? hpk, ?_⟩
          rw [contains_bs, decide_eq_false hin]
          simp
        have hfin' := Lib.hid hfin; clear hfin ha hin hpk
        have hb' := Lib.hid hb; clear hb
        generalize Lib.indexByte set.data.toList (s[k]'hks) = z at *
        go_wp2_with fail
        refine hC'.out.mono ?_
        rintro e v1 ⟨rfl, rfl⟩
        go_wp2_with fail
        go_ret
        exact ⟨by rw [hfin'.out]; rfl, hb'.out⟩
    · obtain rfl : k = s.size := by omega
      have hall : inS (bs s) (bs set) = true := by
        have := ha.out
        rwa [List.take_of_length_le (by rw [length_bs]; exact Nat.le_refl _)] at this
      have hall' := Lib.hid hall; clear hall ha
      have hb' := Lib.hid hb; clear hb
      go_wp2_with fail
      go_ret
      exact ⟨by rw [hall'.out]; rfl, hb'.out⟩

def upDigA : ByteArray := ⟨#[65, 66, 67, 68, 69, 70, 71, 72, 73, 74, 75, 76, 77, 78, 79, 80, 81, 82, 83, 84, 85, 86, 87, 88, 89, 90, 48, 49, 50, 51, 52, 53, 54, 55, 56, 57, 95]⟩
theorem keyB_in (l : List Nat) : l.all keyB = inS l (bs upDigA) := by
  unfold inS
  congr 1
  funext b
  have e : bs upDigA = bs upperA ++ (bs digitsA ++ bs ⟨#[95]⟩) := by decide
  rw [e]
  unfold keyB plusS G.none'
  simp [Bool.or_assoc, List.contains_eq_mem]
theorem upS_in (l : List Nat) : l.all upS = inS l (bs upperA) := by
  unfold inS
  congr 1

theorem rkey_empty (w : World) : Calls Tryd.prog 34 #[.string ⟨#[]⟩] w fun e w' => e = .returned (.bool false) ∧ Below w.heap.size w w' := by
  go_enter Tryd.func34, Tryd.ntmps34
  go_wp2_with fail
  go_ret
  exact ⟨rfl, Below.refl _ _⟩

set_option maxHeartbeats 1000000 in
theorem rkey_long (s : ByteArray) (w : World) (h0 : 0 < s.size) (h1 : ¬ s.size ≤ 32) : Calls Tryd.prog 34 #[.string s] w fun e w' => e = .returned (.bool false) ∧ Below w.heap.size w w' := by
  have i2 : (32 : Int) < (s.size : Int) := by omega
  have e1 : (s.toList == []) = false := list_ne s h0
  go_enter Tryd.func34, Tryd.ntmps34
  go_wp2_with fail
  go_ret
  exact ⟨rfl, Below.refl _ _⟩

set_option maxRecDepth 100000 in
set_option maxHeartbeats 1000000 in
theorem rkey_some (s : ByteArray) (w : World) (h0 : 0 < s.size) (h1 : s.size ≤ 32) : Calls Tryd.prog 34 #[.string s] w fun e w' => e = .returned (.bool (inS (bs s) (bs upDigA) && inS ((bs s).take 1) (bs upperA))) ∧ Below w.heap.size w w' := by
  have e1 : (s.toList == []) = false := list_ne s h0
  have i1 : (1 : Int) ≤ (s.size : Int) := by omega
  have i2 : (s.size : Int) ≤ 32 := by omega
  have hA := fun W => in_any s upDigA W (by omega)
  have hs1 : (s.extract 0 1).size ≤ 1000000000000 := by rw [ByteArray.size_extract]; omega
  have hB := fun W => in_any (s.extract 0 1) upperA W hs1
  rw [show bs (s.extract 0 1) = (bs s).take 1 from bs_take1 s] at hB
  generalize inS (bs s) (bs upDigA) = b1 at *
  generalize inS ((bs s).take 1) (bs upperA) = b2 at *
  unfold upDigA at hA
  unfold upperA at hB
  have hA' := Lib.hid hA; clear hA
  have hB' := Lib.hid hB; clear hB
  cases b1 with
  | false =>
    go_enter Tryd.func34, Tryd.ntmps34
    go_wp2_with fail
    refine (hA'.out _).mono ?_
    rintro e v1 ⟨rfl, hb1⟩
    have k1' := Lib.hid hb1; clear hb1
    go_wp2_with fail
    go_ret
    exact ⟨rfl, k1'.out⟩
  | true =>
    go_enter Tryd.func34, Tryd.ntmps34
    go_wp2_with fail
    refine (hA'.out _).mono ?_
    rintro e v1 ⟨rfl, hb1⟩
    have k1' := Lib.hid hb1; clear hb1
    go_wp2_with fail
    refine (hB'.out _).mono ?_
    rintro e v2 ⟨rfl, hb2⟩
    have k2 : Below w.heap.size w v2 := k1'.out.trans (hb2.mono k1'.out.size)
    have k2' := Lib.hid k2; clear k2 hb2
    go_wp2_with fail
    go_ret
    exact ⟨by simp, k2'.out⟩

theorem rkey_any (s : ByteArray) (w : World) : Calls Tryd.prog 34 #[.string s] w fun e w' => e = .returned (.bool (keyS (bs s))) ∧ Below w.heap.size w w' := by
  by_cases h0 : 0 < s.size
  · by_cases h1 : s.size ≤ 32
    · have he : keyS (bs s) = (inS (bs s) (bs upDigA) && inS ((bs s).take 1) (bs upperA)) := by
        unfold keyS
        rw [keyB_in, upS_in, decide_eq_true (by rw [length_bs]; exact h1), Bool.and_comm (inS ((bs s).take 1) _)]
        have hne : (bs s).isEmpty = false := by
          cases h : bs s with
          | nil => have := length_bs s; rw [h] at this; simp at this; omega
          | cons a l => rfl
        rw [hne]
        rfl
      rw [he]
      exact rkey_some s w h0 h1
    · have he : keyS (bs s) = false := by
        unfold keyS
        rw [length_bs, decide_eq_false h1]
        simp
      rw [he]
      exact rkey_long s w h0 h1
  · have : s = ⟨#[]⟩ := by
      have h : s.data = #[] := Array.eq_empty_of_size_eq_zero (by show s.size = 0; omega)
      cases s
      simp only at h
      rw [h]
    subst this
    exact rkey_empty w

end Go.Proofs.YtgjnohkcnfdmkaaDoor
