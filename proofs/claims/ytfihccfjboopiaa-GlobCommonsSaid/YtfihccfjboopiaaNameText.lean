/-
  THE WALKS of strings.HasPrefix at a text of one byte, and of name.Text.
-/
import Derived.Test.YtfihccfjboopiaaRows
import Derived.Test.YtfihccfjboopiaaMem
import Derived.Test.YtfihccfjboopiaaGlobPlain
namespace Go.Proofs.Ytfihccfjboopiaa
open Go.RowKit

/-- Whether a text begins with a byte. -/
def headB (l : List Nat) (c : Nat) : Bool := match l with
  | [] => false
  | x :: _ => x == c

theorem headB_pos {q : ByteArray} (h : 0 < q.size) (c : UInt8) : ((q.extract 0 1).toList == [c]) = headB (bs q) c.toNat := by
  have h0 := get_bs q 0 h
  rw [ByteArray.toList_eq, ByteArray.data_extract]
  match hl : q.data.toList with
  | [] =>
    have : q.data.toList.length = q.size := by simp
    rw [hl] at this
    simp at this
    omega
  | a :: r =>
    have e1 : (q.data.extract 0 1).toList = [a] := by
      rw [Array.toList_extract, hl]
      rfl
    rw [e1]
    unfold bs
    rw [hl]
    simp only [List.map_cons, headB]
    by_cases h : a = c
    · subst h; simp
    · have h2 : ¬ a.toNat = c.toNat := fun e => h (UInt8.toNat_inj.1 e)
      have g1 : (a == c) = false := beq_eq_false_iff_ne.2 h
      have g2 : (a.toNat == c.toNat) = false := beq_eq_false_iff_ne.2 h2
      rw [g2]
      simpa using h
theorem headB_zero {q : ByteArray} (h : q.size = 0) (c : Nat) : headB (bs q) c = false := by
  have := length_bs q
  match hm : bs q with
  | [] => rfl
  | a :: r => rw [hm, h] at this; cases this

set_option maxHeartbeats 400000 in
theorem hasHead (q : ByteArray) (c : UInt8) (w : World) (hq : q.size ≤ 1000000000) :
    Calls Try.prog 92 #[.string q, .string ⟨#[c]⟩] w fun e w' => e = .returned (.bool (headB (bs q) c.toNat)) ∧ w = w' := by
  by_cases h : 0 < q.size
  · have h1 : (1 : Int) ≤ (q.size : Int) := by omega
    have h2 : 1 ≤ q.size := by omega
    have he := headB_pos h c
    generalize headB (bs q) c.toNat = b at *
    go_enter Try.func92, Try.ntmps92
    go_wp2
    all_goals go_ret
    all_goals (refine ⟨?_, rfl⟩)
    all_goals simp_all
  · have h0 : q.size = 0 := by omega
    rw [headB_zero h0]
    have h1 : ¬ (1 : Int) ≤ (q.size : Int) := by omega
    go_enter Try.func92, Try.ntmps92
    go_wp2
    all_goals go_ret
    all_goals simp_all

theorem hasHead_is (q : ByteArray) (c : UInt8) (b : Bool) (w : World) (hq : q.size ≤ 1000000000) (h : headB (bs q) c.toNat = b) :
    Calls Try.prog 92 #[.string q, .string ⟨#[c]⟩] w fun e w' => e = .returned (.bool b) ∧ w = w' := by
  rw [← h]; exact hasHead q c w hq

/-- Whether a text is one of at most 256 bytes from 32 to 126. -/
def textB (s : ByteArray) : Bool := (bs s).all G.pr && decide (s.size ≤ 256)

theorem pr_no {s : ByteArray} {k : Nat} (hk : k < s.size) (h : ((s[k]'hk).toNat : Int) < 32 ∨ (126 : Int) < ((s[k]'hk).toNat : Int)) : (bs s).all G.pr = false := by
  rw [← Bool.not_eq_true, List.all_eq_true]
  intro hall
  have := hall _ (List.mem_of_getElem? (get_bs s k hk))
  simp only [G.pr, Bool.and_eq_true, decide_eq_true_eq] at this
  omega
theorem pr_step {s : ByteArray} {k : Nat} (hk : k < s.size) (h1 : ¬ ((s[k]'hk).toNat : Int) < 32) (h2 : ¬ (126 : Int) < ((s[k]'hk).toNat : Int)) (h : ((bs s).take k).all G.pr = true) : ((bs s).take (k + 1)).all G.pr = true := by
  rw [List.take_add_one, List.all_append, h, get_bs s k hk]
  simp [G.pr]
  omega

set_option maxHeartbeats 400000 in
theorem text_any (s : ByteArray) (w : World) (hs : s.size ≤ 4611686018427387904) :
    Calls Try.prog 63 #[.string s] w fun e w' => e = .returned (.bool (textB s)) ∧ w = w' := by
  unfold textB
  go_enter Try.func63, Try.ntmps63
  go_wp2_with fail
  go_loop [6] (fun i => ∃ k : Nat, k ≤ s.size ∧ i = .int .i64 k ∧ Hid (((bs s).take k).all G.pr = true)) (fun i => s.size - (intOf i).toNat)
  case atStart => exact ⟨0, by omega, rfl, by simp [Hid]⟩
  case round =>
    obtain ⟨k, hk, rfl, ha⟩ := hrel
    by_cases hlt : k < s.size
    · have n1 := fun h => pr_no (s := s) (k := k) hlt h
      have n1' := Lib.hid n1; clear n1
      have n2 := fun h1 h2 => pr_step (s := s) (k := k) hlt h1 h2 ha.out
      have n2' := Lib.hid n2; clear n2
      go_wp2
      · have h : ((s[k]'hlt).toNat : Int) < 32 ∨ (126 : Int) < ((s[k]'hlt).toNat : Int) := by assumption
        go_ret
        exact ⟨by rw [n1'.out h]; rfl, rfl⟩
      · have h : (32 : Int) ≤ ((s[k]'hlt).toNat : Int) ∧ ((s[k]'hlt).toNat : Int) ≤ 126 := by assumption
        refine ⟨⟨k + 1, by omega, by go_num, n2'.out (by omega) (by omega)⟩, ?_⟩
        simp [intOf]
        omega
      · have h : ((s[k]'hlt).toNat : Int) < 32 := by assumption
        go_ret
        exact ⟨by rw [n1'.out (.inl h)]; rfl, rfl⟩
    · have hall : (bs s).all G.pr = true := by
        have := ha.out
        rwa [List.take_of_length_le (by rw [length_bs]; omega)] at this
      have hall' := Lib.hid hall; clear hall
      go_wp2
      go_ret
      refine ⟨?_, rfl⟩
      rw [hall'.out, Bool.true_and]
      simp
      omega

end Go.Proofs.Ytfihccfjboopiaa
