/-
  THE WALKS of glob.parse and glob.Check.
-/
import Derived.Test.YtfihccfjboopiaaGlobAlts
namespace Go.Proofs.Ytfihccfjboopiaa
open Go.RowKit

/-- The error code of a pattern: 0, 20 (form), 21 (limit). -/
def errS (l : List Nat) : Int := if 256 < l.length then 21 else if (G.alts l).isSome then 0 else 20

theorem alts_long {l : List Nat} (h : 256 < l.length) : G.alts l = none := by
  unfold G.alts
  rw [if_neg]
  rintro ⟨h1, _⟩
  omega
theorem alts_bad {l : List Nat} (h : l.all G.pr = false) : G.alts l = none := by
  unfold G.alts
  rw [if_neg]
  rintro ⟨_, h1⟩
  rw [h] at h1
  cases h1
theorem alts_go {l : List Nat} (h : l.length ≤ 256) (h1 : l.all G.pr = true) : G.alts l = G.go .out [[]] l := by
  unfold G.alts
  rw [if_pos ⟨h, h1⟩]

theorem alts_mono {w : World} {B B' : Nat} {v : Value} {l : List (List G.El)} (h : Alts w B v l) (hB : B' ≤ B) : Alts w B' v l := by
  obtain ⟨vs, h1, h2⟩ := h
  exact ⟨vs, own_mono h1 hB, fun i a hi => by
    obtain ⟨u, hu, hr⟩ := h2 i a hi
    exact ⟨u, hu, own_mono hr hB⟩⟩

/-- What 'parse' answers, and what it leaves. -/
def ParsePost (p : ByteArray) (w : World) (e : Ending) (w' : World) : Prop :=
  ∃ v, e = .returned (.tuple #[v, .int .i64 (errS (bs p))]) ∧ Below w.heap.size w w' ∧ ∀ l, G.alts (bs p) = some l → Alts w' w.heap.size v l ∧ l.length ≤ 257 ∧ ∀ a, a ∈ l → a.length ≤ 256

set_option maxHeartbeats 1000000 in
theorem parse_any (p : ByteArray) (w : World) (hsz : p.size ≤ 9223372036854775807) : Calls Try.prog 39 #[.string p] w (ParsePost p w) := by
  by_cases h1 : 256 < p.size
  · have he : errS (bs p) = 21 := by unfold errS; rw [if_pos (by rw [length_bs]; exact h1)]
    have ha : G.alts (bs p) = none := alts_long (by rw [length_bs]; exact h1)
    have he' := Lib.hid he; clear he
    have ha' := Lib.hid ha; clear ha
    go_enter Try.func39, Try.ntmps39
    go_wp2_with fail
    go_ret2
    exact ⟨.slice none 0 0, by rw [he'.out]; rfl, Below.refl _ _, fun l hl => by rw [ha'.out] at hl; cases hl⟩
  · cases h2 : textB p with
    | false =>
      have hp : (bs p).all G.pr = false := by
        unfold textB at h2
        rw [decide_eq_true (by omega), Bool.and_true] at h2
        exact h2
      have ha : G.alts (bs p) = none := alts_bad hp
      have he : errS (bs p) = 20 := by unfold errS; rw [if_neg (by rw [length_bs]; exact h1), ha]; rfl
      have he' := Lib.hid he; clear he
      have ha' := Lib.hid ha; clear ha hp
      have ht : Calls Try.prog 63 #[.string p] w fun e w' => e = .returned (.bool false) ∧ w = w' := by rw [← h2]; exact text_any p w (by omega)
      have ht' := Lib.hid ht; clear ht h2
      go_enter Try.func39, Try.ntmps39
      go_wp2_with (go_at_call 63; refine ht'.out.mono ?_; rintro e w' ⟨rfl, rfl⟩)
      go_ret2
      exact ⟨.slice none 0 0, by rw [he'.out]; rfl, Below.refl _ _, fun l hl => by rw [ha'.out] at hl; cases hl⟩
    | true =>
      have hp : (bs p).all G.pr = true := by
        unfold textB at h2
        rw [decide_eq_true (by omega), Bool.and_true] at h2
        exact h2
      have ha := alts_go (l := bs p) (by rw [length_bs]; omega) hp
      have hall : ∀ x, x ∈ bs p → G.pr x = true := by rw [List.all_eq_true] at hp; exact hp
      have he : ∀ ok : Bool, (G.alts (bs p)).isSome = ok → errS (bs p) = if ok then 0 else 20 := fun ok h => by unfold errS; rw [if_neg (by rw [length_bs]; exact h1), h]
      have he' := Lib.hid he; clear he
      have ha' := Lib.hid ha; clear ha hp
      have hall' := Lib.hid hall; clear hall
      have ht : Calls Try.prog 63 #[.string p] w fun e w' => e = .returned (.bool true) ∧ w = w' := by rw [← h2]; exact text_any p w (by omega)
      have ht' := Lib.hid ht; clear ht h2
      go_enter Try.func39, Try.ntmps39
      go_wp2_with (first
        | (go_at_call 63; refine ht'.out.mono ?_; rintro e w' ⟨rfl, rfl⟩)
        | (go_at_call 64; refine (alternatives_any p w.heap.size _ (Blk.new w _ _) (by omega) hall'.out).mono ?_; intro e w' hpost; obtain ⟨v, ok, rfl, ho, hno, hyes⟩ := hpost; have ho' := Lib.hid ho; clear ho; have hno' := Lib.hid hno; clear hno; have hyes' := Lib.hid hyes; clear hyes; cases ok))
      · have hn := hno'.out trivial
        go_ret2
        refine ⟨.slice none 0 0, ?_, ?_, fun l hl => ?_⟩
        · rw [he'.out false (by rw [ha'.out, hn]; rfl)]; rfl
        · exact ((Below.refl _ _).alloc (Nat.le_refl _) _).trans (ho'.out.below (fun k hk => by omega) (by simp))
        · rw [ha'.out, hn] at hl; cases hl
      · obtain ⟨l, hl, hal, hb1, hb2⟩ := hyes'.out trivial
        go_ret2
        refine ⟨v, ?_, ?_, fun l2 hl2 => ?_⟩
        · rw [he'.out true (by rw [ha'.out, hl]; rfl)]; rfl
        · exact ((Below.refl _ _).alloc (Nat.le_refl _) _).trans (ho'.out.below (fun k hk => by omega) (by simp))
        · rw [ha'.out, hl] at hl2
          cases hl2
          exact ⟨alts_mono hal (by simp), hb1, hb2⟩

set_option maxHeartbeats 400000 in
theorem check_any (p : ByteArray) (w : World) (hsz : p.size ≤ 9223372036854775807) : Calls Try.prog 22 #[.string p] w fun e w' => e = .returned (.int .i64 (errS (bs p))) ∧ Below w.heap.size w w' := by
  generalize hn : errS (bs p) = n at *
  have hP : Calls Try.prog 39 #[.string p] w fun e w' => ∃ v, e = .returned (.tuple #[v, .int .i64 n]) ∧ Below w.heap.size w w' := (parse_any p w hsz).mono fun e w' ⟨v, he, hb, _⟩ => ⟨v, by rw [← hn]; exact he, hb⟩
  have hP' := Lib.hid hP; clear hP hn
  go_enter Try.func22, Try.ntmps22
  go_wp2_with (go_at_call 39; refine hP'.out.mono ?_; rintro e w' ⟨v, rfl, hb⟩)
  go_ret
  exact ⟨rfl, hb⟩

end Go.Proofs.Ytfihccfjboopiaa
