/-
  THE WALK of glob.matches: the greedy loop over stars.
-/
import Derived.Test.YtfihccfjboopiaaGlobRows
import Derived.Test.YtfihccfjboopiaaNameText
import Derived.Deep.AppendLies
namespace Go.Proofs.Ytfihccfjboopiaa
open Go.RowKit

/-- Where a slice of elements lies, if there is one. -/
theorem Row.form {w : World} {B : Nat} {v : Value} {l : List G.El} (h : Row w B v l) (hl : 0 < l.length) :
    ∃ g cap, v = .slice (some ⟨g, 0, none⟩) l.length cap ∧ ∀ k i x, l[k]? = some x → i < 129 → w.cell? ⟨g, k * 129 + i, none⟩ = (elL x)[i]? := by
  obtain ⟨g, cap, hv, _, _⟩ := World.ownsRow.form h hl
  subst hv
  refine ⟨g, cap, rfl, fun k i x hx hi => ?_⟩
  have hk := (List.getElem?_eq_some_iff.1 hx).1
  rw [World.ownsRow.cellAt h (k * 129 + i) (by omega)]
  exact flat_get l k i x hx hi
theorem elL_star (x : G.El) : (elL x)[1]? = some (.bool x.star) := by
  have := elArr_star x
  simpa [elL] using this
theorem elL_lit (x : G.El) : (elL x)[0]? = some (.int .u8 x.lit) := by
  have := elArr_lit x
  simpa [elL] using this
theorem elL_set (x : G.El) (k : Nat) (h : k < 127) : (elL x)[2 + k]? = some (.bool (x.set k)) := by
  have := elArr_set x k h
  simpa [elL] using this

/-- The program's -1 for 'no star yet'. -/
def starI : Option Nat → Int
  | none => -1
  | some k => k

/-- What holds at the head of the first loop. -/
def MatchAt (l : List G.El) (t : List Nat) (a s f i : Value) : Prop :=
  ∃ (at_ : Nat) (st : Option Nat) (fr j : Nat), a = .int .i64 at_ ∧ s = .int .i64 (starI st) ∧ f = .int .i64 fr ∧ i = .int .i64 j ∧ fr ≤ j ∧ G.Greedy l t at_ st fr j

theorem mu_star {l : List G.El} {t : List Nat} {S a : Nat} {st : Option Nat} {fr j : Nat} (hg : G.Greedy l t a st fr j) (ha : a < l.length) :
    G.gmu l.length S (intOf (.int .i64 (a : Int)) + 1).toNat (intOf (.int .i64 (j : Int))).toNat (intOf (.int .i64 (j : Int))).toNat < G.gmu l.length S (intOf (.int .i64 (starI st)) + 1).toNat (intOf (.int .i64 (fr : Int))).toNat (intOf (.int .i64 (j : Int))).toNat := by
  have h : (starI st + 1).toNat ≤ a := by
    cases st with
    | none => simp [starI]
    | some k => have := (hg.2.2.2 k rfl).1; simp only [starI]; omega
  simp only [intOf, Int.toNat_natCast]
  rw [show ((a : Int) + 1).toNat = a + 1 from by omega]
  exact G.gmu_star h ha
theorem mu_byte {L S : Nat} {st : Option Nat} {fr j : Nat} (hj : j < S) :
    G.gmu L S (intOf (.int .i64 (starI st)) + 1).toNat (intOf (.int .i64 (fr : Int))).toNat (intOf (.int .i64 ((j : Int) + 1))).toNat < G.gmu L S (intOf (.int .i64 (starI st)) + 1).toNat (intOf (.int .i64 (fr : Int))).toNat (intOf (.int .i64 (j : Int))).toNat := by
  simp only [intOf, Int.toNat_natCast]
  rw [show ((j : Int) + 1).toNat = j + 1 from by omega]
  exact G.gmu_byte _ _ _ hj
theorem mu_back {L S k fr j : Nat} (hf : fr ≤ j) (hj : j < S) :
    G.gmu L S (intOf (.int .i64 (k : Int)) + 1).toNat (intOf (.int .i64 ((fr : Int) + 1))).toNat (intOf (.int .i64 ((fr : Int) + 1))).toNat < G.gmu L S (intOf (.int .i64 (k : Int)) + 1).toNat (intOf (.int .i64 (fr : Int))).toNat (intOf (.int .i64 (j : Int))).toNat := by
  simp only [intOf, Int.toNat_natCast]
  rw [show ((fr : Int) + 1).toNat = fr + 1 from by omega]
  exact G.gmu_back _ _ hf hj

set_option maxRecDepth 100000 in
set_option maxHeartbeats 2000000 in
theorem matches_some (l : List G.El) (g cap : Nat) (s : ByteArray) (w : World) (hl : 0 < l.length) (hl2 : l.length ≤ 256) (hs : s.size ≤ 9223372036854775807) (hb : ∀ x, x ∈ bs s → G.pr x = true)
    (hc : ∀ k i x, l[k]? = some x → i < 129 → w.cell? ⟨g, k * 129 + i, none⟩ = (elL x)[i]?) :
    Calls Try.prog 40 #[.slice (some ⟨g, 0, none⟩) l.length cap, .string s] w fun e w' => e = .returned (.bool (G.mt l (bs s))) ∧ ∃ n, w' = w.drewN n := by
  have hc' := Lib.hid hc; clear hc
  have hb' := Lib.hid hb; clear hb
  go_enter Try.func40, Try.ntmps40
  go_wp2_with fail
  go_loopw [5, 6, 7, 8] (fun a st f i wr => MatchAt l (bs s) a st f i ∧ ∃ n, wr = w.drewN n) (fun a st f i _ => G.gmu l.length s.size (intOf st + 1).toNat (intOf f).toNat (intOf i).toNat)
  case atStart => exact ⟨⟨0, none, 0, 0, rfl, rfl, rfl, rfl, by omega, G.Greedy.start _ _⟩, 0, rfl⟩
  case round =>
    obtain ⟨⟨a, st, fr, j, rfl, rfl, rfl, rfl, hfj, hg⟩, nd, rfl⟩ := hrel
    have ha := hg.1
    have hj := hg.2.1
    rw [length_bs] at hj
    have hg' := Lib.hid hg; clear hg
    by_cases hjs : j < s.size
    · by_cases hal : a < l.length
      · obtain ⟨x, hx⟩ : ∃ x, l[a]? = some x := ⟨_, List.getElem?_eq_getElem hal⟩
        have k1 : w.cell? ⟨g, a * 129 + 1, none⟩ = some (.bool x.star) := (hc'.out a 1 x hx (by omega)).trans (elL_star x)
        have hx' := Lib.hid hx; clear hx
        cases hst : x.star with
        | true =>
          rw [hst] at k1
          have hst' := Lib.hid hst; clear hst
          go_wp2_with fail
          go_roundw
          case rel => exact ⟨⟨a + 1, some a, j, j, by go_num, rfl, rfl, rfl, Nat.le_refl _, hg'.out.star hx'.out hst'.out⟩, _, rfl⟩
          case measure => exact mu_star hg'.out hal
        | false =>
          rw [hst] at k1
          have hst' := Lib.hid hst; clear hst
          have hpc : ((s[j]'hjs).toNat : Int) < 127 := by
            have := hb'.out _ (List.mem_of_getElem? (get_bs s j hjs))
            simp only [G.pr, Bool.and_eq_true, decide_eq_true_eq] at this
            omega
          obtain ⟨v, hv⟩ : ∃ v, x.set (s[j]'hjs).toNat = v := ⟨_, rfl⟩
          have k2 : w.cell? ⟨g, a * 129 + 2 + (s[j]'hjs).toNat, none⟩ = some (.bool v) := by
            rw [Nat.add_assoc, ← hv]
            exact (hc'.out a (2 + (s[j]'hjs).toNat) x hx'.out (by omega)).trans (elL_set x _ (by omega))
          have hv' := Lib.hid hv; clear hv
          cases v with
          | true =>
            go_wp2_with fail
            go_quiet (fail)
            go_wp2_with fail
            go_roundw
            case rel => exact ⟨⟨a + 1, st, fr, j + 1, by go_num, rfl, rfl, by go_num, by omega, hg'.out.byte hx'.out hst'.out (get_bs s j hjs) hv'.out⟩, _, rfl⟩
            case measure => exact mu_byte hjs
          | false =>
            have hno : G.mt (l.drop a) ((bs s).drop j) = false := G.stuck (by rw [length_bs]; exact hjs) (fun e he => by
                rw [hx'.out] at he
                cases he
                exact ⟨hst'.out, fun c hcc => by rw [get_bs s j hjs] at hcc; cases hcc; exact hv'.out⟩)
            have hno' := Lib.hid hno; clear hno
            cases st with
            | none =>
              have hfin := hg'.out.no hno'.out
              have hfin' := Lib.hid hfin; clear hfin
              have hneg : starI none = -1 := rfl
              rw [hneg]
              clear hneg
              go_wp2_with fail
              go_quiet (fail)
              go_wp2_with fail
              go_ret
              exact ⟨by rw [hfin'.out]; rfl, _, rfl⟩
            | some k =>
              have hnxt := hg'.out.back (by rw [length_bs]; exact hjs) hno'.out
              have hnxt' := Lib.hid hnxt; clear hnxt
              have hpos : starI (some k) = (k : Int) := rfl
              rw [hpos]
              clear hpos
              have hka : k < l.length := by have := (hg'.out.2.2.2 k rfl).1; omega
              go_wp2_with fail
              go_quiet (fail)
              go_wp2_with fail
              go_roundw
              case rel => exact ⟨⟨k + 1, some k, fr + 1, fr + 1, by go_num, rfl, by go_num, by go_num, by omega, hnxt'.out⟩, _, rfl⟩
              case measure => exact mu_back hfj hjs
      · have hnl : l[a]? = none := List.getElem?_eq_none (by omega)
        have hnl' := Lib.hid hnl; clear hnl
        have hno : G.mt (l.drop a) ((bs s).drop j) = false := G.stuck (by rw [length_bs]; exact hjs) (fun e he => by rw [hnl'.out] at he; cases he)
        have hno' := Lib.hid hno; clear hno
        cases st with
        | none =>
          have hfin := hg'.out.no hno'.out
          have hfin' := Lib.hid hfin; clear hfin
          have hneg : starI none = -1 := rfl
          rw [hneg]
          clear hneg
          go_wp2_with fail
          go_quiet (fail)
          go_wp2_with fail
          go_ret
          exact ⟨by rw [hfin'.out]; rfl, _, rfl⟩
        | some k =>
          have hnxt := hg'.out.back (by rw [length_bs]; exact hjs) hno'.out
          have hnxt' := Lib.hid hnxt; clear hnxt
          have hpos : starI (some k) = (k : Int) := rfl
          rw [hpos]
          clear hpos
          have hka : k < l.length := by have := (hg'.out.2.2.2 k rfl).1; omega
          go_wp2_with fail
          go_quiet (fail)
          go_wp2_with fail
          go_roundw
          case rel => exact ⟨⟨k + 1, some k, fr + 1, fr + 1, by go_num, rfl, by go_num, by go_num, by omega, hnxt'.out⟩, _, rfl⟩
          case measure => exact mu_back hfj hjs
    · obtain rfl : j = s.size := by omega
      have hdone := hg'.out
      rw [← length_bs] at hdone
      have hd := hdone.done
      have hd' := Lib.hid hd; clear hd hdone
      go_wp2_with fail
      go_loopw [5] (fun a wr => ∃ a2 : Nat, a = .int .i64 a2 ∧ a2 ≤ l.length ∧ Hid (G.mt l (bs s) = G.mt (l.drop a2) []) ∧ ∃ n, wr = w.drewN n) (fun a _ => l.length - (intOf a).toNat)
      case atStart => exact ⟨a, rfl, ha, hd'.out, _, rfl⟩
      case round =>
        clear hd' hg'
        obtain ⟨a2, rfl, ha2, hm, n2, rfl⟩ := hrel
        by_cases hal : a2 < l.length
        · obtain ⟨x, hx⟩ : ∃ x, l[a2]? = some x := ⟨_, List.getElem?_eq_getElem hal⟩
          have k1 : w.cell? ⟨g, a2 * 129 + 1, none⟩ = some (.bool x.star) := (hc'.out a2 1 x hx (by omega)).trans (elL_star x)
          have hx' := Lib.hid hx; clear hx
          cases hst : x.star with
          | true =>
            rw [hst] at k1
            have hst' := Lib.hid hst; clear hst
            go_wp2_with fail
            go_roundw
            case rel => exact ⟨a2 + 1, by go_num, by omega, by show _ = _; rw [hm.out, G.mt_nil_star hx'.out hst'.out], _, rfl⟩
            case measure => simp [intOf]; omega
          | false =>
            rw [hst] at k1
            have hfin : G.mt l (bs s) = decide (a2 = l.length) := by
              rw [hm.out]
              exact G.mt_nil_end ha2 fun e he => by rw [hx'.out] at he; cases he; exact hst
            have hfin' := Lib.hid hfin; clear hfin hst
            go_wp2_with fail
            go_ret
            refine ⟨?_, _, rfl⟩
            rw [hfin'.out]
            simp [Nat.ne_of_lt hal, Int.ofNat_inj]
        · have hfin : G.mt l (bs s) = decide (a2 = l.length) := by
            rw [hm.out]
            exact G.mt_nil_end ha2 fun e he => by rw [List.getElem?_eq_none (by omega)] at he; cases he
          have hfin' := Lib.hid hfin; clear hfin
          go_wp2_with fail
          go_ret
          obtain rfl : a2 = l.length := by omega
          refine ⟨?_, _, rfl⟩
          rw [hfin'.out]
          simp

set_option maxRecDepth 100000 in
set_option maxHeartbeats 2000000 in
theorem matches_nil (p : Option Addr) (cap : Nat) (s : ByteArray) (w : World) (hs : s.size ≤ 9223372036854775807) :
    Calls Try.prog 40 #[.slice p 0 cap, .string s] w fun e w' => e = .returned (.bool (G.mt [] (bs s))) ∧ ∃ n, w' = w.drewN n := by
  go_enter Try.func40, Try.ntmps40
  go_wp2_with fail
  by_cases h0 : 0 < s.size
  · go_loopw [5, 6, 7, 8] (fun a st f i wr => a = .int .i64 0 ∧ st = .int .i64 (-1) ∧ f = .int .i64 0 ∧ i = .int .i64 0 ∧ ∃ n, wr = w.drewN n) (fun a st f i _ => 0)
    case atStart => exact ⟨rfl, rfl, rfl, rfl, 0, rfl⟩
    case round =>
      obtain ⟨rfl, rfl, rfl, rfl, nd, rfl⟩ := hrel
      go_wp2_with fail
      go_quiet (fail)
      go_wp2_with fail
      go_ret
      refine ⟨?_, _, rfl⟩
      have : G.mt [] (bs s) = false := by
        have h1 : 0 < (bs s).length := by rw [length_bs]; exact h0
        cases h : bs s with
        | nil => rw [h] at h1; simp at h1
        | cons c t => rfl
      rw [this]
      rfl
  · have h0 : s.size = 0 := by omega
    have he : G.mt [] (bs s) = true := by
      have h1 : (bs s).length = 0 := by rw [length_bs]; exact h0
      rw [List.eq_nil_of_length_eq_zero h1]
      rfl
    have he' := Lib.hid he; clear he
    go_loopw [5, 6, 7, 8] (fun a st f i wr => a = .int .i64 0 ∧ st = .int .i64 (-1) ∧ f = .int .i64 0 ∧ i = .int .i64 0 ∧ ∃ n, wr = w.drewN n) (fun a st f i _ => 0)
    case atStart => exact ⟨rfl, rfl, rfl, rfl, 0, rfl⟩
    case round =>
      obtain ⟨rfl, rfl, rfl, rfl, nd, rfl⟩ := hrel
      go_wp2_with fail
      go_loopw [5] (fun a wr => a = .int .i64 0 ∧ ∃ n, wr = w.drewN n) (fun a _ => 0)
      case atStart => exact ⟨rfl, _, rfl⟩
      case round =>
        obtain ⟨rfl, n2, rfl⟩ := hrel
        go_wp2_with fail
        go_ret
        refine ⟨?_, _, rfl⟩
        rw [he'.out]
        rfl

end Go.Proofs.Ytfihccfjboopiaa
