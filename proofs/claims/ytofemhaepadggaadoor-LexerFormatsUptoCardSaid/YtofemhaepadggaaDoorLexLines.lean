/-
  THE WALKS of lexer.physical and lexer.Lines.
-/
import Derived.Test.YtofemhaepadggaaDoorLexTrim
import Derived.Deep.AppendLies
namespace Go.Proofs.YtofemhaepadggaaDoor
open Go.RowKit

theorem suffix_last (l : List UInt8) : Lib.hasSuffix l [92] = decide (l.getLast? = some 92) := by
  unfold Lib.hasSuffix
  rw [List.isSuffixOf]
  rcases List.eq_nil_or_concat l with rfl | ⟨r, a, rfl⟩
  · rfl
  · simp [List.isPrefixOf]
    by_cases h : a = 92
    · subst h; simp
    · simp [h, Ne.symm h]
theorem cuts_any (x : ByteArray) (w : World) (hs : x.size ≤ 1000000000) : Calls Tryd.prog 41 #[.string x, .string ⟨#[92]⟩] w fun e w' => e = .returned (.tuple #[.string (cutB x), .bool (lastB x)]) ∧ w' = w := by
  refine (Tryd.strings_CutSuffix x ⟨#[92]⟩ w (by omega)).mono ?_
  rintro e w' ⟨rfl, rfl⟩
  refine ⟨?_, rfl⟩
  have h1 : Lib.hasSuffix x.data.toList [92] = lastB x := suffix_last _
  show Ending.returned (Value.tuple #[.string ⟨(Lib.trimSuffix x.data.toList [92]).toArray⟩, .bool (Lib.hasSuffix x.data.toList [92])]) = _
  rw [h1]
  have h2 : (⟨(Lib.trimSuffix x.data.toList [92]).toArray⟩ : ByteArray) = cutB x := by
    unfold Lib.trimSuffix cutB
    rw [h1]
    cases lastB x with
    | false => rfl
    | true =>
      simp only [if_true]
      apply bs_inj
      rw [bs_of, bs_to, bs_data, List.map_take, Lib.size_eq]
      rfl
  rw [h2]

theorem split10_any (s : ByteArray) (m : Int) (w : World) (hs : s.size < 4294967281) (hm : w.cell? ⟨0, 0, none⟩ = some (.int .i64 m)) :
    Calls Tryd.prog 43 #[.string s, .string ⟨#[10]⟩] w fun e w' => e = .returned (.slice (some ⟨w.heap.size, 0, none⟩) (pieces s).length (pieces s).length) ∧ w' = w.alloc (.cells ((pieces s).map Value.string).toArray 9) := by
  have h := Tryd.strings_Split s ⟨#[10]⟩ m w hs hm (by decide)
  have e : (pieces s).length = Lib.countB s ⟨#[10]⟩ + 1 := Lib.splitB_all ⟨#[10]⟩ (by decide) 0 _ s rfl
  rw [e]
  exact h
theorem pieces_len (s : ByteArray) : 1 ≤ (pieces s).length ∧ (pieces s).length ≤ s.size + 1 := by
  unfold pieces
  rw [Lib.splitB_all ⟨#[10]⟩ (by decide) 0 _ s rfl]
  have := Lib.countB_le ⟨#[10]⟩ (by decide) s.size s (Nat.le_refl _)
  omega

set_option maxHeartbeats 1000000 in
theorem phys_any (s : ByteArray) (m : Int) (w : World) (hs : s.size ≤ 4000) (hm : w.cell? ⟨0, 0, none⟩ = some (.int .i64 m)) :
    Calls Tryd.prog 40 #[.string s] w fun e w' => (∃ c, e = .returned (.slice (some ⟨w.heap.size, 0, none⟩) (phys s).length c)) ∧ w' = w.alloc (.cells ((pieces s).map Value.string).toArray 9) := by
  have hS' := Lib.hid (split10_any s m w (by omega) hm)
  obtain ⟨hl1, hl2⟩ := pieces_len s
  unfold phys
  obtain ⟨x, hx⟩ : ∃ x, (pieces s)[(pieces s).length - 1]? = some x := ⟨_, List.getElem?_eq_getElem (by omega)⟩
  have hlast : ((pieces s).getLast?.getD ⟨#[]⟩) = x := by rw [List.getLast?_eq_getElem?, hx]; rfl
  rw [hlast]
  have hdl : (pieces s).dropLast.length = (pieces s).length - 1 := List.length_dropLast
  clear hlast
  generalize pieces s = P at *
  obtain ⟨n, hn⟩ : ∃ n, P.length = n + 1 := ⟨P.length - 1, by omega⟩
  rw [hn] at hS' hl2 hx hdl
  simp only [Nat.add_sub_cancel] at hx hdl
  have c0 : (w.alloc (.cells (P.map Value.string).toArray 9)).cell? ⟨w.heap.size, n, none⟩ = some (.string x) := ((Blk.new w _ _).cell n).trans (by simp [hx])
  have c0' := Lib.hid c0; clear c0 hx hm
  have i0 : (n : Int) + 1 - 1 = n := by omega
  have i1 : (0 : Int) ≤ (n : Int) := by omega
  have i2 : (n : Int) < (n : Int) + 1 := by omega
  have i3 : (n : Int) ≤ (n : Int) + 1 := by omega
  by_cases hx0 : x.size = 0
  · have e1 : (x.toList == []) = true := list_emp hx0
    rw [if_pos hx0, hdl]
    clear hdl hn
    generalize w.alloc (.cells (P.map Value.string).toArray 9) = w1 at *
    have c0 := c0'.out
    go_enter Tryd.func40, Tryd.ntmps40
    go_wp2_with fail
    refine hS'.out.mono ?_
    rintro e w' ⟨rfl, rfl⟩
    go_wp2_with fail
    go_ret
    exact ⟨⟨_, rfl⟩, rfl⟩
  · have e1 : (x.toList == []) = false := list_ne x (by omega)
    rw [if_neg hx0, hn]
    clear hdl hn
    generalize w.alloc (.cells (P.map Value.string).toArray 9) = w1 at *
    have c0 := c0'.out
    go_enter Tryd.func40, Tryd.ntmps40
    go_wp2_with fail
    refine hS'.out.mono ?_
    rintro e w' ⟨rfl, rfl⟩
    go_wp2_with fail
    go_ret
    exact ⟨⟨_, rfl⟩, rfl⟩

end Go.Proofs.YtofemhaepadggaaDoor
