/-
  THE WALK of glob.matches: the greedy loop over stars.
  THE WALK of glob.Match.
-/
import Derived.Test.YtinjeijjfkkhbaaGreatDoorGlobParse
import Derived.Test.YtinjeijjfkkhbaaGreatDoorGlobSet
import Derived.Deep.AppendLies
namespace Go.Proofs.YtinjeijjfkkhbaaGreatDoor
open Go.RowKit

/-- Where a slice of elements lies, if there is one. -/
theorem Row.form {w : World} {B : Nat} {v : Value} {l : List G.El} (h : Row w B v l) (hl : 0 < l.length) :
    ∃ g cap, v = .slice (some ⟨g, 0, none⟩) l.length cap ∧ ∀ k i x, l[k]? = some x → i < 129 → w.cell? ⟨g, k * 129 + i, none⟩ = (elL x)[i]? := by
  obtain ⟨g, cap, hv, _, _⟩ := World.ownsRow.form h hl
  subst hv
  refine ⟨g, cap, rfl, fun k i x hx hi => ?_⟩
  have hk := (List.getElem?_eq_some_iff.1 hx).1
  rw [World.ownsRow.cellAt h (k * 129 + i) (by omega)]
  exact flat_get l k i x hx hi
theorem elL_star (x : G.El) : (elL x)[1]? = some (.bool x.star) := by
  have := elArr_star x
  simpa [elL] using this
theorem elL_lit (x : G.El) : (elL x)[0]? = some (.int .u8 x.lit) := by
  have := elArr_lit x
  simpa [elL] using this
theorem elL_set (x : G.El) (k : Nat) (h : k < 127) : (elL x)[2 + k]? = some (.bool (x.set k)) := by
  have := elArr_set x k h
  simpa [elL] using this

/-- The program's -1 for 'no star yet'. -/
def starI : Option Nat → Int
  | none => -1
  | some k => k

/-- What holds at the head of the first loop. -/
def MatchAt (l : List G.El) (t : List Nat) (a s f i : Value) : Prop :=
  ∃ (at_ : Nat) (st : Option Nat) (fr j : Nat), a = .int .i64 at_ ∧ s = .int .i64 (starI st) ∧ f = .int .i64 fr ∧ i = .int .i64 j ∧ fr ≤ j ∧ G.Greedy l t at_ st fr j

theorem mu_star {l : List G.El} {t : List Nat} {S a : Nat} {st : Option Nat} {fr j : Nat} (hg : G.Greedy l t a st fr j) (ha : a < l.length) :
    G.gmu l.length S (intOf (.int .i64 (a : Int)) + 1).toNat (intOf (.int .i64 (j : Int))).toNat (intOf (.int .i64 (j : Int))).toNat < G.gmu l.length S (intOf (.int .i64 (starI st)) + 1).toNat (intOf (.int .i64 (fr : Int))).toNat (intOf (.int .i64 (j : Int))).toNat := by
  have h : (starI st + 1).toNat ≤ a := by
    cases st with
    | none => simp [starI]
    | some k => have := (hg.2.2.2 k rfl).1; simp only [starI]; omega
  simp only [intOf, Int.toNat_natCast]
  rw [show ((a : Int) + 1).toNat = a + 1 from by omega]
  exact G.gmu_star h ha
theorem mu_byte {L S : Nat} {st : Option Nat} {fr j : Nat} (hj : j < S) :
    G.gmu L S (intOf (.int .i64 (starI st)) + 1).toNat (intOf (.int .i64 (fr : Int))).toNat (intOf (.int .i64 ((j : Int) + 1))).toNat < G.gmu L S (intOf (.int .i64 (starI st)) + 1).toNat (intOf (.int .i64 (fr : Int))).toNat (intOf (.int .i64 (j : Int))).toNat := by
  simp only [intOf, Int.toNat_natCast]
  rw [show ((j : Int) + 1).toNat = j + 1 from by omega]
  exact G.gmu_byte _ _ _ hj
theorem mu_back {L S k fr j : Nat} (hf : fr ≤ j) (hj : j < S) :
    G.gmu L S (intOf (.int .i64 (k : Int)) + 1).toNat (intOf (.int .i64 ((fr : Int) + 1))).toNat (intOf (.int .i64 ((fr : Int) + 1))).toNat < G.gmu L S (intOf (.int .i64 (k : Int)) + 1).toNat (intOf (.int .i64 (fr : Int))).toNat (intOf (.int .i64 (j : Int))).toNat := by
  simp only [intOf, Int.toNat_natCast]
  rw [show ((fr : Int) + 1).toNat = fr + 1 from by omega]
  exact G.gmu_back _ _ hf hj

set_option maxRecDepth 100000 in
set_option maxHeartbeats 2000000 in
theorem matches_some (l : List G.El) (g cap : Nat) (s : ByteArray) (w : World) (hl : 0 < l.length) (hl2 : l.length ≤ 256) (hs : s.size ≤ 9223372036854775807) (hb : ∀ x, x ∈ bs s → G.pr x = true)
    (hc : ∀ k i x, l[k]? = some x → i < 129 → w.cell? ⟨g, k * 129 + i, none⟩ = (elL x)[i]?) :
    Calls Tryz.prog 62 #[.slice (some ⟨g, 0, none⟩) l.length cap, .string s] w fun e w' => e = .returned (.bool (G.mt l (bs s))) ∧ ∃ n, w' = w.drewN n := by
  have hc' := Lib.hid hc; clear hc
  have hb' := Lib.hid hb; clear hb
  go_enter Tryz.func62, Tryz.ntmps62
  go_wp2_with fail
  go_loopw [5, 6, 7, 8] (fun a st f i wr => MatchAt l (bs s) a st f i ∧ ∃ n, wr = w.drewN n) (fun a st f i _ => G.gmu l.length s.size (intOf st + 1).toNat (intOf f).toNat (intOf i).toNat)
  case atStart => exact ⟨⟨0, none, 0, 0, rfl, rfl, rfl, rfl, by omega, G.Greedy.start _ _⟩, 0, rfl⟩
  case round =>
    obtain ⟨⟨a, st, fr, j, rfl, rfl, rfl, rfl, hfj, hg⟩, nd, rfl⟩ := hrel
    have ha := hg.1
    have hj := hg.2.1
    rw [length_bs] at hj
    have hg' := Lib.hid hg; clear hg
    by_cases hjs : j < s.size
    · by_cases hal : a < l.length
      · obtain ⟨x, hx⟩ : ∃ x, l[a]? = some x := ⟨_, List.getElem?_eq_getElem hal⟩
        have k1 : w.cell? ⟨g, a * 129 + 1, none⟩ = some (.bool x.star) := (hc'.out a 1 x hx (by omega)).trans (elL_star x)
        have hx' := Lib.hid hx; clear hx
        cases hst : x.star with
        | true =>
          rw [hst] at k1
          have hst' := Lib.hid hst; clear hst
          go_wp2_with fail
          go_roundw
          case rel => exact ⟨⟨a + 1, some a, j, j, by go_num, rfl, rfl, rfl, Nat.le_refl _, hg'.out.star hx'.out hst'.out⟩, _, rfl⟩
          case measure => exact mu_star hg'.out hal
        | false =>
          rw [hst] at k1
          have hst' := Lib.hid hst; clear hst
          have hpc : ((s[j]'hjs).toNat : Int) < 127 := by
            have := hb'.out _ (List.mem_of_getElem? (get_bs s j hjs))
            simp only [G.pr, Bool.and_eq_true, decide_eq_true_eq] at this
            omega
          obtain ⟨v, hv⟩ : ∃ v, x.set (s[j]'hjs).toNat = v := ⟨_, rfl⟩
          have k2 : w.cell? ⟨g, a * 129 + 2 + (s[j]'hjs).toNat, none⟩ = some (.bool v) := by
            rw [Nat.add_assoc, ← hv]
            exact (hc'.out a (2 + (s[j]'hjs).toNat) x hx'.out (by omega)).trans (elL_set x _ (by omega))
          have hv' := Lib.hid hv; clear hv
          cases v with
          | true =>
            go_wp2_with fail
            go_quiet (fail)
            go_wp2_with fail
            go_roundw
            case rel => exact ⟨⟨a + 1, st, fr, j + 1, by go_num, rfl, rfl, by go_num, by omega, hg'.out.byte hx'.out hst'.out (get_bs s j hjs) hv'.out⟩, _, rfl⟩
            case measure => exact mu_byte hjs
          | false =>
            have hno : G.mt (l.drop a) ((bs s).drop j) = false := G.stuck (by rw [length_bs]; exact hjs) (fun e he => by
                rw [hx'.out] at he
                cases he
                exact ⟨hst'.out, fun c hcc => by rw [get_bs s j hjs] at hcc; cases hcc; exact hv'.out⟩)
            have hno' := Lib.hid hno; clear hno
            cases st with
            | none =>
              have hfin := hg'.out.no hno'.out
              have hfin' := Lib.hid hfin; clear hfin
              have hneg : starI none = -1 := rfl
              rw [hneg]
              clear hneg
              go_wp2_with fail
              go_quiet (fail)
              go_wp2_with fail
              go_ret
              exact ⟨by rw [hfin'.out]; rfl, _, rfl⟩
            | some k =>
              have hnxt := hg'.out.back (by rw [length_bs]; exact hjs) hno'.out
              have hnxt' := Lib.hid hnxt; clear hnxt
              have hpos : starI (some k) = (k : Int) := rfl
              rw [hpos]
              clear hpos
              have hka : k < l.length := by have := (hg'.out.2.2.2 k rfl).1; omega
              go_wp2_with fail
              go_quiet (fail)
              go_wp2_with fail
              go_roundw
              case rel => exact ⟨⟨k + 1, some k, fr + 1, fr + 1, by go_num, rfl, by go_num, by go_num, by omega, hnxt'.out⟩, _, rfl⟩
              case measure => exact mu_back hfj hjs
      · have hnl : l[a]? = none := List.getElem?_eq_none (by omega)
        have hnl' := Lib.hid hnl; clear hnl
        have hno : G.mt (l.drop a) ((bs s).drop j) = false := G.stuck (by rw [length_bs]; exact hjs) (fun e he => by rw [hnl'.out] at he; cases he)
        have hno' := Lib.hid hno; clear hno
        cases st with
        | none =>
          have hfin := hg'.out.no hno'.out
          have hfin' := Lib.hid hfin; clear hfin
          have hneg : starI none = -1 := rfl
          rw [hneg]
          clear hneg
          go_wp2_with fail
          go_quiet (fail)
          go_wp2_with fail
          go_ret
          exact ⟨by rw [hfin'.out]; rfl, _, rfl⟩
        | some k =>
          have hnxt := hg'.out.back (by rw [length_bs]; exact hjs) hno'.out
          have hnxt' := Lib.hid hnxt; clear hnxt
          have hpos : starI (some k) = (k : Int) := rfl
          rw [hpos]
          clear hpos
          have hka : k < l.length := by have := (hg'.out.2.2.2 k rfl).1; omega
          go_wp2_with fail
          go_quiet (fail)
          go_wp2_with fail
          go_roundw
          case rel => exact ⟨⟨k + 1, some k, fr + 1, fr + 1, by go_num, rfl, by go_num, by go_num, by omega, hnxt'.out⟩, _, rfl⟩
          case measure => exact mu_back hfj hjs
    · obtain rfl : j = s.size := by omega
      have hdone := hg'.out
      rw [← length_bs] at hdone
      have hd := hdone.done
      have hd' := Lib.hid hd; clear hd hdone
      go_wp2_with fail
      go_loopw [5] (fun a wr => ∃ a2 : Nat, a = .int .i64 a2 ∧ a2 ≤ l.length ∧ Hid (G.mt l (bs s) = G.mt (l.drop a2) []) ∧ ∃ n, wr = w.drewN n) (fun a _ => l.length - (intOf a).toNat)
      case atStart => exact ⟨a, rfl, ha, hd'.out, _, rfl⟩
      case round =>
        clear hd' hg'
        obtain ⟨a2, rfl, ha2, hm, n2, rfl⟩ := hrel
        by_cases hal : a2 < l.length
        · obtain ⟨x, hx⟩ : ∃ x, l[a2]? = some x := ⟨_, List.getElem?_eq_getElem hal⟩
          have k1 : w.cell? ⟨g, a2 * 129 + 1, none⟩ = some (.bool x.star) := (hc'.out a2 1 x hx (by omega)).trans (elL_star x)
          have hx' := Lib.hid hx; clear hx
          cases hst : x.star with
          | true =>
            rw [hst] at k1
            have hst' := Lib.hid hst; clear hst
            go_wp2_with fail
            go_roundw
            case rel => exact ⟨a2 + 1, by go_num, by omega, by show _ = _; rw [hm.out, G.mt_nil_star hx'.out hst'.out], _, rfl⟩
            case measure => simp [intOf]; omega
          | false =>
            rw [hst] at k1
            have hfin : G.mt l (bs s) = decide (a2 = l.length) := by
              rw [hm.out]
              exact G.mt_nil_end ha2 fun e he => by rw [hx'.out] at he; cases he; exact hst
            have hfin' := Lib.hid hfin; clear hfin hst
            go_wp2_with fail
            go_ret
            refine ⟨?_, _, rfl⟩
            rw [hfin'.out]
            simp [Nat.ne_of_lt hal, Int.ofNat_inj]
        · have hfin : G.mt l (bs s) = decide (a2 = l.length) := by
            rw [hm.out]
            exact G.mt_nil_end ha2 fun e he => by rw [List.getElem?_eq_none (by omega)] at he; cases he
          have hfin' := Lib.hid hfin; clear hfin
          go_wp2_with fail
          go_ret
          obtain rfl : a2 = l.length := by omega
          refine ⟨?_, _, rfl⟩
          rw [hfin'.out]
          simp

set_option maxRecDepth 100000 in
set_option maxHeartbeats 2000000 in
theorem matches_nil (p : Option Addr) (cap : Nat) (s : ByteArray) (w : World) (hs : s.size ≤ 9223372036854775807) :
    Calls Tryz.prog 62 #[.slice p 0 cap, .string s] w fun e w' => e = .returned (.bool (G.mt [] (bs s))) ∧ ∃ n, w' = w.drewN n := by
  go_enter Tryz.func62, Tryz.ntmps62
  go_wp2_with fail
  by_cases h0 : 0 < s.size
  · go_loopw [5, 6, 7, 8] (fun a st f i wr => a = .int .i64 0 ∧ st = .int .i64 (-1) ∧ f = .int .i64 0 ∧ i = .int .i64 0 ∧ ∃ n, wr = w.drewN n) (fun a st f i _ => 0)
    case atStart => exact ⟨rfl, rfl, rfl, rfl, 0, rfl⟩
    case round =>
      obtain ⟨rfl, rfl, rfl, rfl, nd, rfl⟩ := hrel
      go_wp2_with fail
      go_quiet (fail)
      go_wp2_with fail
      go_ret
      refine ⟨?_, _, rfl⟩
      have : G.mt [] (bs s) = false := by
        have h1 : 0 < (bs s).length := by rw [length_bs]; exact h0
        cases h : bs s with
        | nil => rw [h] at h1; simp at h1
        | cons c t => rfl
      rw [this]
      rfl
  · have h0 : s.size = 0 := by omega
    have he : G.mt [] (bs s) = true := by
      have h1 : (bs s).length = 0 := by rw [length_bs]; exact h0
      rw [List.eq_nil_of_length_eq_zero h1]
      rfl
    have he' := Lib.hid he; clear he
    go_loopw [5, 6, 7, 8] (fun a st f i wr => a = .int .i64 0 ∧ st = .int .i64 (-1) ∧ f = .int .i64 0 ∧ i = .int .i64 0 ∧ ∃ n, wr = w.drewN n) (fun a st f i _ => 0)
    case atStart => exact ⟨rfl, rfl, rfl, rfl, 0, rfl⟩
    case round =>
      obtain ⟨rfl, rfl, rfl, rfl, nd, rfl⟩ := hrel
      go_wp2_with fail
      go_loopw [5] (fun a wr => a = .int .i64 0 ∧ ∃ n, wr = w.drewN n) (fun a _ => 0)
      case atStart => exact ⟨rfl, _, rfl⟩
      case round =>
        obtain ⟨rfl, n2, rfl⟩ := hrel
        go_wp2_with fail
        go_ret
        refine ⟨?_, _, rfl⟩
        rw [he'.out]
        rfl

end Go.Proofs.YtinjeijjfkkhbaaGreatDoor

namespace Go.Proofs.YtinjeijjfkkhbaaGreatDoor
open Go.RowKit

theorem matches_any {w : World} {B : Nat} {v : Value} (l : List G.El) (s : ByteArray) (hr : Row w B v l) (hl2 : l.length ≤ 256) (hs : s.size ≤ 9223372036854775807) (hb : ∀ x, x ∈ bs s → G.pr x = true) :
    Calls Tryz.prog 62 #[v, .string s] w fun e w' => e = .returned (.bool (G.mt l (bs s))) ∧ ∃ n, w' = w.drewN n := by
  by_cases hl : 0 < l.length
  · obtain ⟨g, cap, rfl, hc⟩ := hr.form hl
    exact matches_some l g cap s w hl hl2 hs hb hc
  · have h0 : l = [] := List.eq_nil_of_length_eq_zero (by omega)
    subst h0
    rcases hr with ⟨_, ⟨rfl, _⟩ | ⟨g, cap, cur, rfl, _⟩⟩
    · exact matches_nil _ _ s w hs
    · exact matches_nil _ _ s w hs

theorem below_drewN {B : Nat} {a w : World} (h : Below B a w) (n : Nat) : Below B a (w.drewN n) :=
  ⟨(congrArg World.os (rfl : w.drewN n = _)).trans h.os, by simpa using h.tape, (congrArg World.output (rfl : w.drewN n = _)).trans h.output, by simpa using h.size, fun k hk => by simpa using h.block k hk⟩
theorem Row.drew {w : World} {B : Nat} {v : Value} {l : List G.El} (h : Row w B v l) (n : Nat) : Row (w.drewN n) B v l := by
  simpa [Row, World.ownsRow] using h
theorem any_no {l : List (List G.El)} {f : List G.El → Bool} {k : Nat} {a : List G.El} (ha : l[k]? = some a) (h : (l.take k).any f = false) (hf : f a = false) : (l.take (k + 1)).any f = false := by
  rw [List.take_add_one, ha]
  simp only [List.any_append, h, Bool.false_or]
  simp [hf]
theorem any_yes {l : List (List G.El)} {f : List G.El → Bool} {k : Nat} {a : List G.El} (ha : l[k]? = some a) (hf : f a = true) : l.any f = true :=
  List.any_eq_true.2 ⟨a, List.mem_of_getElem? ha, hf⟩

theorem errS_some {p : List Nat} {l : List (List G.El)} (h : G.alts p = some l) : errS p = 0 := by
  have hn : ¬ 256 < p.length := fun hlt => by
    unfold G.alts at h
    rw [if_neg (by omega)] at h
    cases h
  unfold errS
  rw [if_neg hn, h]
  rfl
theorem errS_none {p : List Nat} (h : G.alts p = none) : errS p = 20 ∨ errS p = 21 := by
  unfold errS
  by_cases hl : 256 < p.length
  · rw [if_pos hl]; exact .inr rfl
  · rw [if_neg hl, h]; exact .inl rfl

set_option maxHeartbeats 400000 in
theorem match_none (p s : ByteArray) (w : World) (hsz : p.size ≤ 9223372036854775807) (h : G.alts (bs p) = none) : Calls Tryz.prog 37 #[.string p, .string s] w fun e w' => e = .returned (.bool false) ∧ Below w.heap.size w w' := by
  rcases errS_none h with he | he
  · have hP : Calls Tryz.prog 61 #[.string p] w fun e w' => ∃ v, e = .returned (.tuple #[v, .int .i64 20]) ∧ Below w.heap.size w w' := (parse_any p w hsz).mono fun e w' ⟨v, he', hb, _⟩ => ⟨v, by rw [← he]; exact he', hb⟩
    have hP' := Lib.hid hP; clear hP he h
    go_enter Tryz.func37, Tryz.ntmps37
    go_wp2_with (go_at_call 61; refine hP'.out.mono ?_; rintro e w' ⟨v, rfl, hb⟩)
    go_ret
    exact ⟨rfl, hb⟩
  · have hP : Calls Tryz.prog 61 #[.string p] w fun e w' => ∃ v, e = .returned (.tuple #[v, .int .i64 21]) ∧ Below w.heap.size w w' := (parse_any p w hsz).mono fun e w' ⟨v, he', hb, _⟩ => ⟨v, by rw [← he]; exact he', hb⟩
    have hP' := Lib.hid hP; clear hP he h
    go_enter Tryz.func37, Tryz.ntmps37
    go_wp2_with (go_at_call 61; refine hP'.out.mono ?_; rintro e w' ⟨v, rfl, hb⟩)
    go_ret
    exact ⟨rfl, hb⟩

set_option maxHeartbeats 1000000 in
set_option maxRecDepth 100000 in
theorem match_some (p s : ByteArray) (w : World) (l : List (List G.El)) (hsz : p.size ≤ 9223372036854775807) (hs : s.size ≤ 9223372036854775807) (h : G.alts (bs p) = some l) :
    Calls Tryz.prog 37 #[.string p, .string s] w fun e w' => e = .returned (.bool ((bs s).all G.pr && l.any fun a => G.mt a (bs s))) ∧ Below w.heap.size w w' := by
  have hP : Calls Tryz.prog 61 #[.string p] w fun e w' => ∃ v, e = .returned (.tuple #[v, .int .i64 0]) ∧ Below w.heap.size w w' ∧ Alts w' w.heap.size v l ∧ l.length ≤ 257 ∧ ∀ a, a ∈ l → a.length ≤ 256 :=
    (parse_any p w hsz).mono fun e w' ⟨v, he', hb, hl⟩ => ⟨v, by rw [← errS_some h]; exact he', hb, (hl l h).1, (hl l h).2.1, (hl l h).2.2⟩
  have hP' := Lib.hid hP; clear hP h
  go_enter Tryz.func37, Tryz.ntmps37
  go_wp2_with (go_at_call 61; refine hP'.out.mono ?_; rintro e w1 ⟨v, rfl, hb, hal, hl1, hl2⟩; have hal' := Lib.hid hal; clear hal; have hb' := Lib.hid hb; clear hb; have hl2' := Lib.hid hl2; clear hl2)
  go_loop [19] (fun i => ∃ k : Nat, k ≤ s.size ∧ i = .int .i64 k ∧ Hid (((bs s).take k).all G.pr = true)) (fun i => s.size - (intOf i).toNat)
  case atStart => exact ⟨0, by omega, rfl, by simp [Hid]⟩
  case round =>
    obtain ⟨k, hk, rfl, ha⟩ := hrel
    by_cases hlt : k < s.size
    · have n1 := fun h => pr_no (s := s) (k := k) hlt h
      have n1' := Lib.hid n1; clear n1
      have n2 := fun h1 h2 => pr_step (s := s) (k := k) hlt h1 h2 ha.out
      have n2' := Lib.hid n2; clear n2
      go_wp2
      · have h : ((s[k]'hlt).toNat : Int) < 32 ∨ (126 : Int) < ((s[k]'hlt).toNat : Int) := by assumption
        go_ret
        exact ⟨by rw [n1'.out h]; rfl, hb'.out⟩
      · have h : (32 : Int) ≤ ((s[k]'hlt).toNat : Int) ∧ ((s[k]'hlt).toNat : Int) ≤ 126 := by assumption
        refine ⟨⟨k + 1, by omega, by go_num, n2'.out (by omega) (by omega)⟩, ?_⟩
        simp [intOf]
        omega
      · have h : ((s[k]'hlt).toNat : Int) < 32 := by assumption
        go_ret
        exact ⟨by rw [n1'.out (.inl h)]; rfl, hb'.out⟩
    · have hall : (bs s).all G.pr = true := by
        have := ha.out
        rwa [List.take_of_length_le (by rw [length_bs]; omega)] at this
      have hpr : ∀ x, x ∈ bs s → G.pr x = true := by rw [List.all_eq_true] at hall; exact hall
      have hall' := Lib.hid hall; clear hall
      have hpr' := Lib.hid hpr; clear hpr
      obtain ⟨vs, hvs, hin⟩ := hal'.out
      have hin' := Lib.hid hin; clear hin
      obtain ⟨m, hm⟩ : ∃ m, m = l.length := ⟨_, rfl⟩
      by_cases hl0 : 0 < l.length
      · obtain ⟨g, cap, rfl, _, _⟩ := World.ownsRow.form hvs hl0
        have hce : ∀ i u, vs[i]? = some u → i < l.length → w1.cell? ⟨g, i, none⟩ = some u := fun i u hu hi => by
          rw [World.ownsRow.cellAt hvs i (by omega)]
          exact hu
        have hce' := Lib.hid hce; clear hce
        have hvs' := Lib.hid hvs; clear hvs
        go_wp2_with fail
        go_loopw [35] (fun i wr => ∃ k : Nat, k ≤ l.length ∧ i = .int .i64 k ∧ Hid ((l.take k).any (fun a => G.mt a (bs s)) = false) ∧ ∃ n, wr = w1.drewN n) (fun i _ => l.length - (intOf i).toNat)
        case atStart => exact ⟨0, by omega, rfl, by simp [Hid], 0, rfl⟩
        case round =>
          obtain ⟨j, hj, rfl, hno, n, rfl⟩ := hrel
          by_cases hjl : j < l.length
          · obtain ⟨a, hla⟩ : ∃ a, l[j]? = some a := ⟨_, List.getElem?_eq_getElem hjl⟩
            obtain ⟨u, hu, hrow⟩ := hin'.out j a hla
            have ha2 := hl2'.out a (List.mem_of_getElem? hla)
            have k1 : w1.cell? ⟨g, j, none⟩ = some u := hce'.out j u hu hjl
            have hla' := Lib.hid hla; clear hla
            have hu' := Lib.hid hu; clear hu
            obtain ⟨b, hbe⟩ : ∃ b, G.mt a (bs s) = b := ⟨_, rfl⟩
            have hP : Calls Tryz.prog 62 #[u, .string s] (w1.drewN n) fun e w' => e = .returned (.bool b) ∧ ∃ n2, w' = w1.drewN n2 := by
              rw [← hbe]
              exact (matches_any a s (hrow.drew n) ha2 hs hpr'.out).mono fun e w' ⟨he, n2, hw⟩ => ⟨he, n + n2, by rw [hw]; simp⟩
            have hP' := Lib.hid hP; clear hP
            have hbe' := Lib.hid hbe; clear hbe
            have hrow' := Lib.hid hrow; clear hrow
            go_wp2_with (go_at_call 62; refine hP'.out.mono ?_; rintro e w' ⟨rfl, n2, rfl⟩; cases b)
            · go_roundw
              case rel => exact ⟨j + 1, by omega, by go_num, any_no hla'.out hno.out hbe'.out, _, rfl⟩
              case measure => simp [intOf]; omega
            · go_ret
              refine ⟨?_, ?_⟩
              · rw [hall'.out, any_yes hla'.out hbe'.out]; rfl
              · exact below_drewN hb'.out _
          · go_wp2_with fail
            go_ret
            refine ⟨?_, ?_⟩
            · have := hno.out
              rw [List.take_of_length_le (by omega)] at this
              rw [hall'.out, this]
              rfl
            · exact below_drewN hb'.out _
      · have h0 : l = [] := List.eq_nil_of_length_eq_zero (by omega)
        subst h0
        have hv : ∃ p cap, v = .slice p 0 cap := by
          rcases hvs with ⟨_, ⟨rfl, _⟩ | ⟨g, cap, cur, rfl, _⟩⟩
          · exact ⟨_, _, rfl⟩
          · exact ⟨_, _, rfl⟩
        obtain ⟨p1, cap, rfl⟩ := hv
        have hvs' := Lib.hid hvs; clear hvs
        go_wp2_with fail
        go_loopw [35] (fun i wr => i = .int .i64 0 ∧ wr = w1) (fun i _ => 0)
        case atStart => exact ⟨rfl, rfl⟩
        case round =>
          obtain ⟨rfl, rfl⟩ := hrel
          go_wp2_with fail
          go_ret
          refine ⟨?_, hb'.out⟩
          rw [hall'.out]
          rfl

/-- glob.Match answers as the pattern's plain reading does. -/
theorem match_any (p s : ByteArray) (w : World) (hsz : p.size ≤ 9223372036854775807) (hs : s.size ≤ 9223372036854775807) :
    Calls Tryz.prog 37 #[.string p, .string s] w fun e w' => e = .returned (.bool (G.matchS (bs p) (bs s))) ∧ Below w.heap.size w w' := by
  unfold G.matchS
  cases h : G.alts (bs p) with
  | none => exact match_none p s w hsz h
  | some l => exact match_some p s w l hsz hs h

end Go.Proofs.YtinjeijjfkkhbaaGreatDoor
