/-
  THE WALK of glob.Match.
-/
import Derived.Test.YtfihccfjboopiaaGlobParse
import Derived.Test.YtfihccfjboopiaaGlobMatches
namespace Go.Proofs.Ytfihccfjboopiaa
open Go.RowKit

theorem matches_any {w : World} {B : Nat} {v : Value} (l : List G.El) (s : ByteArray) (hr : Row w B v l) (hl2 : l.length ≤ 256) (hs : s.size ≤ 9223372036854775807) (hb : ∀ x, x ∈ bs s → G.pr x = true) :
    Calls Try.prog 40 #[v, .string s] w fun e w' => e = .returned (.bool (G.mt l (bs s))) ∧ ∃ n, w' = w.drewN n := by
  by_cases hl : 0 < l.length
  · obtain ⟨g, cap, rfl, hc⟩ := hr.form hl
    exact matches_some l g cap s w hl hl2 hs hb hc
  · have h0 : l = [] := List.eq_nil_of_length_eq_zero (by omega)
    subst h0
    rcases hr with ⟨_, ⟨rfl, _⟩ | ⟨g, cap, cur, rfl, _⟩⟩
    · exact matches_nil _ _ s w hs
    · exact matches_nil _ _ s w hs

theorem below_drewN {B : Nat} {a w : World} (h : Below B a w) (n : Nat) : Below B a (w.drewN n) :=
  ⟨(congrArg World.os (rfl : w.drewN n = _)).trans h.os, by simpa using h.tape, (congrArg World.output (rfl : w.drewN n = _)).trans h.output, by simpa using h.size, fun k hk => by simpa using h.block k hk⟩
theorem Row.drew {w : World} {B : Nat} {v : Value} {l : List G.El} (h : Row w B v l) (n : Nat) : Row (w.drewN n) B v l := by
  simpa [Row, World.ownsRow] using h
theorem any_no {l : List (List G.El)} {f : List G.El → Bool} {k : Nat} {a : List G.El} (ha : l[k]? = some a) (h : (l.take k).any f = false) (hf : f a = false) : (l.take (k + 1)).any f = false := by
  rw [List.take_add_one, ha]
  simp only [List.any_append, h, Bool.false_or]
  simp [hf]
theorem any_yes {l : List (List G.El)} {f : List G.El → Bool} {k : Nat} {a : List G.El} (ha : l[k]? = some a) (hf : f a = true) : l.any f = true :=
  List.any_eq_true.2 ⟨a, List.mem_of_getElem? ha, hf⟩

theorem errS_some {p : List Nat} {l : List (List G.El)} (h : G.alts p = some l) : errS p = 0 := by
  have hn : ¬ 256 < p.length := fun hlt => by
    unfold G.alts at h
    rw [if_neg (by omega)] at h
    cases h
  unfold errS
  rw [if_neg hn, h]
  rfl
theorem errS_none {p : List Nat} (h : G.alts p = none) : errS p = 20 ∨ errS p = 21 := by
  unfold errS
  by_cases hl : 256 < p.length
  · rw [if_pos hl]; exact .inr rfl
  · rw [if_neg hl, h]; exact .inl rfl

set_option maxHeartbeats 400000 in
theorem match_none (p s : ByteArray) (w : World) (hsz : p.size ≤ 9223372036854775807) (h : G.alts (bs p) = none) : Calls Try.prog 13 #[.string p, .string s] w fun e w' => e = .returned (.bool false) ∧ Below w.heap.size w w' := by
  rcases errS_none h with he | he
  · have hP : Calls Try.prog 39 #[.string p] w fun e w' => ∃ v, e = .returned (.tuple #[v, .int .i64 20]) ∧ Below w.heap.size w w' := (parse_any p w hsz).mono fun e w' ⟨v, he', hb, _⟩ => ⟨v, by rw [← he]; exact he', hb⟩
    have hP' := Lib.hid hP; clear hP he h
    go_enter Try.func13, Try.ntmps13
    go_wp2_with (go_at_call 39; refine hP'.out.mono ?_; rintro e w' ⟨v, rfl, hb⟩)
    go_ret
    exact ⟨rfl, hb⟩
  · have hP : Calls Try.prog 39 #[.string p] w fun e w' => ∃ v, e = .returned (.tuple #[v, .int .i64 21]) ∧ Below w.heap.size w w' := (parse_any p w hsz).mono fun e w' ⟨v, he', hb, _⟩ => ⟨v, by rw [← he]; exact he', hb⟩
    have hP' := Lib.hid hP; clear hP he h
    go_enter Try.func13, Try.ntmps13
    go_wp2_with (go_at_call 39; refine hP'.out.mono ?_; rintro e w' ⟨v, rfl, hb⟩)
    go_ret
    exact ⟨rfl, hb⟩

set_option maxHeartbeats 1000000 in
set_option maxRecDepth 100000 in
theorem match_some (p s : ByteArray) (w : World) (l : List (List G.El)) (hsz : p.size ≤ 9223372036854775807) (hs : s.size ≤ 9223372036854775807) (h : G.alts (bs p) = some l) :
    Calls Try.prog 13 #[.string p, .string s] w fun e w' => e = .returned (.bool ((bs s).all G.pr && l.any fun a => G.mt a (bs s))) ∧ Below w.heap.size w w' := by
  have hP : Calls Try.prog 39 #[.string p] w fun e w' => ∃ v, e = .returned (.tuple #[v, .int .i64 0]) ∧ Below w.heap.size w w' ∧ Alts w' w.heap.size v l ∧ l.length ≤ 257 ∧ ∀ a, a ∈ l → a.length ≤ 256 :=
    (parse_any p w hsz).mono fun e w' ⟨v, he', hb, hl⟩ => ⟨v, by rw [← errS_some h]; exact he', hb, (hl l h).1, (hl l h).2.1, (hl l h).2.2⟩
  have hP' := Lib.hid hP; clear hP h
  go_enter Try.func13, Try.ntmps13
  go_wp2_with (go_at_call 39; refine hP'.out.mono ?_; rintro e w1 ⟨v, rfl, hb, hal, hl1, hl2⟩; have hal' := Lib.hid hal; clear hal; have hb' := Lib.hid hb; clear hb; have hl2' := Lib.hid hl2; clear hl2)
  go_loop [19] (fun i => ∃ k : Nat, k ≤ s.size ∧ i = .int .i64 k ∧ Hid (((bs s).take k).all G.pr = true)) (fun i => s.size - (intOf i).toNat)
  case atStart => exact ⟨0, by omega, rfl, by simp [Hid]⟩
  case round =>
    obtain ⟨k, hk, rfl, ha⟩ := hrel
    by_cases hlt : k < s.size
    · have n1 := fun h => pr_no (s := s) (k := k) hlt h
      have n1' := Lib.hid n1; clear n1
      have n2 := fun h1 h2 => pr_step (s := s) (k := k) hlt h1 h2 ha.out
      have n2' := Lib.hid n2; clear n2
      go_wp2
      · have h : ((s[k]'hlt).toNat : Int) < 32 ∨ (126 : Int) < ((s[k]'hlt).toNat : Int) := by assumption
        go_ret
        exact ⟨by rw [n1'.out h]; rfl, hb'.out⟩
      · have h : (32 : Int) ≤ ((s[k]'hlt).toNat : Int) ∧ ((s[k]'hlt).toNat : Int) ≤ 126 := by assumption
        refine ⟨⟨k + 1, by omega, by go_num, n2'.out (by omega) (by omega)⟩, ?_⟩
        simp [intOf]
        omega
      · have h : ((s[k]'hlt).toNat : Int) < 32 := by assumption
        go_ret
        exact ⟨by rw [n1'.out (.inl h)]; rfl, hb'.out⟩
    · have hall : (bs s).all G.pr = true := by
        have := ha.out
        rwa [List.take_of_length_le (by rw [length_bs]; omega)] at this
      have hpr : ∀ x, x ∈ bs s → G.pr x = true := by rw [List.all_eq_true] at hall; exact hall
      have hall' := Lib.hid hall; clear hall
      have hpr' := Lib.hid hpr; clear hpr
      obtain ⟨vs, hvs, hin⟩ := hal'.out
      have hin' := Lib.hid hin; clear hin
      obtain ⟨m, hm⟩ : ∃ m, m = l.length := ⟨_, rfl⟩
      by_cases hl0 : 0 < l.length
      · obtain ⟨g, cap, rfl, _, _⟩ := World.ownsRow.form hvs hl0
        have hce : ∀ i u, vs[i]? = some u → i < l.length → w1.cell? ⟨g, i, none⟩ = some u := fun i u hu hi => by
          rw [World.ownsRow.cellAt hvs i (by omega)]
          exact hu
        have hce' := Lib.hid hce; clear hce
        have hvs' := Lib.hid hvs; clear hvs
        go_wp2_with fail
        go_loopw [35] (fun i wr => ∃ k : Nat, k ≤ l.length ∧ i = .int .i64 k ∧ Hid ((l.take k).any (fun a => G.mt a (bs s)) = false) ∧ ∃ n, wr = w1.drewN n) (fun i _ => l.length - (intOf i).toNat)
        case atStart => exact ⟨0, by omega, rfl, by simp [Hid], 0, rfl⟩
        case round =>
          obtain ⟨j, hj, rfl, hno, n, rfl⟩ := hrel
          by_cases hjl : j < l.length
          · obtain ⟨a, hla⟩ : ∃ a, l[j]? = some a := ⟨_, List.getElem?_eq_getElem hjl⟩
            obtain ⟨u, hu, hrow⟩ := hin'.out j a hla
            have ha2 := hl2'.out a (List.mem_of_getElem? hla)
            have k1 : w1.cell? ⟨g, j, none⟩ = some u := hce'.out j u hu hjl
            have hla' := Lib.hid hla; clear hla
            have hu' := Lib.hid hu; clear hu
            obtain ⟨b, hbe⟩ : ∃ b, G.mt a (bs s) = b := ⟨_, rfl⟩
            have hP : Calls Try.prog 40 #[u, .string s] (w1.drewN n) fun e w' => e = .returned (.bool b) ∧ ∃ n2, w' = w1.drewN n2 := by
              rw [← hbe]
              exact (matches_any a s (hrow.drew n) ha2 hs hpr'.out).mono fun e w' ⟨he, n2, hw⟩ => ⟨he, n + n2, by rw [hw]; simp⟩
            have hP' := Lib.hid hP; clear hP
            have hbe' := Lib.hid hbe; clear hbe
            have hrow' := Lib.hid hrow; clear hrow
            go_wp2_with (go_at_call 40; refine hP'.out.mono ?_; rintro e w' ⟨rfl, n2, rfl⟩; cases b)
            · go_roundw
              case rel => exact ⟨j + 1, by omega, by go_num, any_no hla'.out hno.out hbe'.out, _, rfl⟩
              case measure => simp [intOf]; omega
            · go_ret
              refine ⟨?_, ?_⟩
              · rw [hall'.out, any_yes hla'.out hbe'.out]; rfl
              · exact below_drewN hb'.out _
          · go_wp2_with fail
            go_ret
            refine ⟨?_, ?_⟩
            · have := hno.out
              rw [List.take_of_length_le (by omega)] at this
              rw [hall'.out, this]
              rfl
            · exact below_drewN hb'.out _
      · have h0 : l = [] := List.eq_nil_of_length_eq_zero (by omega)
        subst h0
        have hv : ∃ p cap, v = .slice p 0 cap := by
          rcases hvs with ⟨_, ⟨rfl, _⟩ | ⟨g, cap, cur, rfl, _⟩⟩
          · exact ⟨_, _, rfl⟩
          · exact ⟨_, _, rfl⟩
        obtain ⟨p1, cap, rfl⟩ := hv
        have hvs' := Lib.hid hvs; clear hvs
        go_wp2_with fail
        go_loopw [35] (fun i wr => i = .int .i64 0 ∧ wr = w1) (fun i _ => 0)
        case atStart => exact ⟨rfl, rfl⟩
        case round =>
          obtain ⟨rfl, rfl⟩ := hrel
          go_wp2_with fail
          go_ret
          refine ⟨?_, hb'.out⟩
          rw [hall'.out]
          rfl

/-- glob.Match answers as the pattern's plain reading does. -/
theorem match_any (p s : ByteArray) (w : World) (hsz : p.size ≤ 9223372036854775807) (hs : s.size ≤ 9223372036854775807) :
    Calls Try.prog 13 #[.string p, .string s] w fun e w' => e = .returned (.bool (G.matchS (bs p) (bs s))) ∧ Below w.heap.size w w' := by
  unfold G.matchS
  cases h : G.alts (bs p) with
  | none => exact match_none p s w hsz h
  | some l => exact match_some p s w l hsz hs h

end Go.Proofs.Ytfihccfjboopiaa
