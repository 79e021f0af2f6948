/-
  THE WALK of coldpluglaw02.less.
-/
import Derived.Test.YtgjnohkcnfdmkaaKnown
namespace Go.Proofs.Ytgjnohkcnfdmkaa
open Go.RowKit

theorem bl_self : ∀ a : List UInt8, Op.bytesLess a a = false
  | [] => rfl
  | x :: a => by
    unfold Op.bytesLess
    rw [bl_self a]
    simp
theorem bl_pre : ∀ (p : List Nat) (a b : List UInt8) (x y : Nat) (u v : List Nat), b.map UInt8.toNat = p ++ x :: u → a.map UInt8.toNat = p ++ y :: v → x < y → Op.bytesLess a b = false
  | [], a, b, x, y, u, v, hb, ha, hxy => by
    cases a with
    | nil => simp at ha
    | cons a0 a =>
      cases b with
      | nil => simp at hb
      | cons b0 b =>
        simp only [List.nil_append, List.map_cons, List.cons.injEq] at ha hb
        unfold Op.bytesLess
        have h1 : ¬ a0 < b0 := fun h => by
          have := UInt8.lt_iff_toNat_lt.1 h
          omega
        have h2 : ¬ a0 = b0 := fun h => by rw [h] at ha; omega
        simp [h1, h2]
  | c :: p, a, b, x, y, u, v, hb, ha, hxy => by
    cases a with
    | nil => simp at ha
    | cons a0 a =>
      cases b with
      | nil => simp at hb
      | cons b0 b =>
        simp only [List.cons_append, List.map_cons, List.cons.injEq] at ha hb
        have h2 : a0 = b0 := UInt8.toNat_inj.1 (by rw [ha.1, hb.1])
        subst h2
        unfold Op.bytesLess
        rw [bl_pre p a b x y u v hb.2 ha.2 hxy]
        simp

def lessB (s t : ByteArray) : Bool := decide (s.size < t.size) || (decide (s.size = t.size) && Op.bytesLess s.toList t.toList)
theorem not_less {s t : ByteArray} (h : G.leqT (bs t) (bs s)) : lessB s t = false := by
  unfold lessB
  rcases h with h | h | ⟨h1, p, x, y, u, v, h2, h3, h4⟩
  · rw [length_bs, length_bs] at h
    rw [decide_eq_false (by omega), decide_eq_false (by omega)]
    rfl
  · have := bs_eq h
    subst this
    rw [bl_self]
    simp
  · rw [length_bs, length_bs] at h1
    have : Op.bytesLess s.toList t.toList = false := by
      rw [ByteArray.toList_eq, ByteArray.toList_eq]
      exact bl_pre p _ _ x y u v h2 h3 h4
    rw [this, decide_eq_false (by omega)]
    simp

set_option maxHeartbeats 400000 in
theorem less_any2 (s t : ByteArray) (w : World) : Calls Try.prog 33 #[.string s, .string t] w fun e w' => e = .returned (.bool (lessB s t)) ∧ w = w' := by
  unfold lessB
  generalize hb : Op.bytesLess s.toList t.toList = b
  by_cases h1 : s.size < t.size
  · have i1 : (s.size : Int) < (t.size : Int) := by omega
    rw [decide_eq_true h1]
    clear hb
    go_enter Try.func33, Try.ntmps33
    go_wp2
    go_ret
    exact ⟨rfl, rfl⟩
  · have i1 : ¬ (s.size : Int) < (t.size : Int) := by omega
    rw [decide_eq_false h1]
    by_cases h2 : s.size = t.size
    · have i2 : (s.size : Int) = (t.size : Int) := by omega
      rw [decide_eq_true h2]
      clear h1
      go_enter Try.func33, Try.ntmps33
      go_wp2
      go_ret
      exact ⟨by simp [hb], rfl⟩
    · have i2 : ¬ (s.size : Int) = (t.size : Int) := by omega
      rw [decide_eq_false h2]
      clear hb
      go_enter Try.func33, Try.ntmps33
      go_wp2
      go_ret
      exact ⟨rfl, rfl⟩

end Go.Proofs.Ytgjnohkcnfdmkaa
