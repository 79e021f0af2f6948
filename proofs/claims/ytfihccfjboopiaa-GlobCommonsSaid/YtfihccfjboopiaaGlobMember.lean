/-
  THE WALK of glob's (*reader).member: a member of a set, laid into the set.
-/
import Derived.Test.YtfihccfjboopiaaGlobMem
namespace Go.Proofs.Ytfihccfjboopiaa
open Go.RowKit

/-- Whether a member is a range. -/
def rngB : List Nat → Bool
  | _ :: d :: e :: _ => decide ((d : Int) = 45) && ((e : Int) != 93)
  | _ => false

theorem bs_three {q : ByteArray} (h2 : 2 < q.size) : ∃ r, bs q = (q[0]'(by omega)).toNat :: (q[1]'(by omega)).toNat :: (q[2]'h2).toNat :: r := by
  have h0 := get_bs q 0 (by omega)
  have h1 := get_bs q 1 (by omega)
  have h3 := get_bs q 2 h2
  match hl : bs q with
  | [] => rw [hl] at h0; cases h0
  | [_] => rw [hl] at h1; cases h1
  | [_, _] => rw [hl] at h3; cases h3
  | a :: b :: c :: r =>
    rw [hl] at h0 h1 h3
    simp at h0 h1 h3
    exact ⟨r, by rw [h0, h1, h3]⟩
theorem rngB_ge {q : ByteArray} (h2 : 2 < q.size) : rngB (bs q) = (decide (((q[1]'(by omega)).toNat : Int) = 45) && (((q[2]'h2).toNat : Int) != 93)) := by
  obtain ⟨r, hr⟩ := bs_three h2
  rw [hr]; rfl
theorem rngB_lt {q : ByteArray} (h : q.size ≤ 2) : rngB (bs q) = false := by
  have hl := length_bs q
  match hm : bs q with
  | [] => rfl
  | [_] => rfl
  | [_, _] => rfl
  | a :: b :: c :: r => rw [hm] at hl; simp at hl; omega
theorem rngB_size {q : ByteArray} (h : rngB (bs q) = true) : 2 < q.size := by
  rcases Nat.lt_or_ge 2 q.size with h2 | h2
  · exact h2
  · rw [rngB_lt h2] at h; cases h
theorem mem_rng {q : ByteArray} {c : Nat} (hc : (bs q)[0]? = some c) (h2 : 2 < q.size) (h : rngB (bs q) = true) : G.mem (bs q) = some (c, (q[2]'h2).toNat, 3) := by
  obtain ⟨r, hr⟩ := bs_three h2
  rw [hr] at hc h ⊢
  simp only [rngB, Bool.and_eq_true, decide_eq_true_eq, bne_iff_ne] at h
  simp at hc
  rw [G.mem, if_pos ⟨by omega, by have := h.2; omega⟩, hc]
theorem mem_one {l : List Nat} {c : Nat} (hc : l[0]? = some c) (h : rngB l = false) : G.mem l = some (c, c, 1) := by
  match l with
  | [] => cases hc
  | [a] => simp at hc; subst hc; rfl
  | [a, b] => simp at hc; subst hc; rfl
  | a :: b :: d :: r =>
    simp at hc
    subst hc
    rw [G.mem, if_neg]
    rintro ⟨h1, h2⟩
    rw [rngB] at h
    have e1 : decide ((b : Int) = 45) = true := by simp; omega
    have e2 : ((d : Int) != 93) = true := by rw [bne_iff_ne]; omega
    rw [e1, e2] at h
    cases h
theorem mem_bound {l : List Nat} {c d n B : Nat} (h : G.mem l = some (c, d, n)) (hall : ∀ x, x ∈ l → x ≤ B) : c ≤ B ∧ d ≤ B := by
  match l with
  | [] => cases h
  | [a] =>
    simp only [G.mem, Option.some.injEq, Prod.mk.injEq] at h
    obtain ⟨rfl, rfl, _⟩ := h
    exact ⟨hall _ (by simp), hall _ (by simp)⟩
  | [a, b] =>
    simp only [G.mem, Option.some.injEq, Prod.mk.injEq] at h
    obtain ⟨rfl, rfl, _⟩ := h
    exact ⟨hall _ (by simp), hall _ (by simp)⟩
  | a :: b :: e :: r =>
    by_cases hd : b = 45 ∧ e ≠ 93
    · rw [G.mem, if_pos hd] at h
      simp only [Option.some.injEq, Prod.mk.injEq] at h
      obtain ⟨rfl, rfl, _⟩ := h
      exact ⟨hall _ (by simp), hall _ (by simp)⟩
    · rw [G.mem, if_neg hd] at h
      simp only [Option.some.injEq, Prod.mk.injEq] at h
      obtain ⟨rfl, rfl, _⟩ := h
      exact ⟨hall _ (by simp), hall _ (by simp)⟩

/-- The bytes from c up to (not with) k beside those of s. -/
def rngTo (s : Nat → Bool) (c k : Nat) : Nat → Bool := fun i => s i || (decide (c ≤ i) && decide (i < k))
theorem rngTo_start (s : Nat → Bool) (c : Nat) : rngTo s c c = s := by
  funext i
  simp only [rngTo]
  by_cases h : c ≤ i
  · have : ¬ i < c := by omega
    simp [this]
  · simp [h]
theorem rngTo_upd (s : Nat → Bool) (c k : Nat) (h : c ≤ k) : upd (rngTo s c k) k true = rngTo s c (k + 1) := by
  funext i
  simp only [upd, rngTo]
  by_cases e : i = k
  · subst e
    have : i < i + 1 := by omega
    simp [h, this]
  · rw [if_neg e]
    have : (i < k + 1) = (i < k) := by simp; omega
    simp [this]
theorem rngTo_end (s : Nat → Bool) (c d : Nat) : rngTo s c (d + 1) = G.rng s c d := by
  funext i
  simp only [rngTo, G.rng]
  have : (i < d + 1) = (i ≤ d) := by simp; omega
  simp [this]
theorem rng_none (s : Nat → Bool) {c d : Nat} (h : d < c) : G.rng s c d = s := by
  funext i
  simp only [G.rng]
  by_cases h2 : c ≤ i
  · have : ¬ i ≤ d := by omega
    simp [this]
  · simp [h2]

set_option maxHeartbeats 1000000 in
theorem member_some (p : ByteArray) (at_ : Nat) (s : Nat → Bool) (rb sb : Nat) (w : World) (hr : Blk w rb 112 #[.string p, .int .i64 at_]) (hs : Blk w sb 116 (setArr s))
    (h0 : at_ < p.size) (hp : p.size ≤ 256) (hall : ∀ x, x ∈ bs p → x ≤ 126) :
    Calls Try.prog 93 #[.pointer (some ⟨rb, 0, none⟩), .pointer (some ⟨sb, 0, none⟩)] w fun e w' =>
      ∃ c d n, G.mem ((bs p).drop at_) = some (c, d, n) ∧ at_ + n ≤ p.size ∧ e = .returned (.bool (decide (c ≤ d))) ∧ Blk w' rb 112 #[.string p, .int .i64 (at_ + n : Nat)] ∧ Blk w' sb 116 (setArr (G.rng s c d)) ∧ Only (fun k => k = rb ∨ k = sb) w w' := by
  have hne : rb ≠ sb := hr.ne_ hs (by decide)
  have c0 : w.cell? ⟨rb, 0, none⟩ = some (.string p) := (hr.cell 0).trans rfl
  have c1 : w.cell? ⟨rb, 1, none⟩ = some (.int .i64 at_) := (hr.cell 1).trans rfl
  have hr' := Lib.hid hr; clear hr
  have hs' := Lib.hid hs; clear hs
  have hall' := Lib.hid hall; clear hall
  have hq0 : (p.extract at_ p.size).toList.isEmpty = false := isEmpty_pos (by rw [size_rest]; omega)
  have hqs := size_rest p at_
  have hqb := bs_extract p at_
  have hqs' := Lib.hid hqs; clear hqs
  have hqb' := Lib.hid hqb; clear hqb
  go_enter Try.func93, Try.ntmps93
  go_wp2_with fail
  go_quiet (fail)
  generalize hq : p.extract at_ p.size = q at *
  clear hq
  have hq1 : 0 < q.size := by have := hqs'.out; omega
  have hq2 : q.size ≤ 256 := by have := hqs'.out; omega
  go_upto_region 4 with fail
  go_cut [6, 7] (fun fr tv wx => ∃ c : Nat, fr = .int .u8 c ∧ tv = .int .u8 c ∧ Hid ((bs q)[0]? = some c) ∧ Blk wx rb 112 #[.string p, .int .i64 at_] ∧ Blk wx sb 116 (setArr s) ∧ Only (fun k => k = rb ∨ k = sb) w wx)
  case first =>
    go_quiet (fail)
    go_wp2_with fail
    go_meet
    case rel => exact ⟨_, rfl, rfl, get_bs q 0 hq1, (hr'.out.drewN _).drewN _, (hs'.out.drewN _).drewN _, ((Only.refl _ _).drewN _).drewN _⟩
  case rest =>
    obtain ⟨c, rfl, rfl, hc, hr1, hs1, ho1⟩ := hcut
    clear hr' hs' c0 c1
    have c1 : wc.cell? ⟨rb, 1, none⟩ = some (.int .i64 at_) := (hr1.cell 1).trans rfl
    have f1 := hr1.frozen 1
    have hr' := Lib.hid hr1; clear hr1
    have hs' := Lib.hid hs1; clear hs1
    have ho' := Lib.hid ho1; clear ho1
    obtain ⟨wb, rfl⟩ : ∃ x : World, x = wc := ⟨_, rfl⟩
    go_upto_region 6 with fail
    go_cut [43] (fun b wx => b = .bool (rngB (bs q)) ∧ Blk wx rb 112 #[.string p, .int .i64 (at_ + 1 : Nat)] ∧ Blk wx sb 116 (setArr s) ∧ Only (fun k => k = rb ∨ k = sb) w wx)
    case first =>
      have fin : ∀ u : Int, u = (at_ + 1 : Nat) → Blk (wb.setCell ⟨rb, 1, none⟩ (.int .i64 u)) rb 112 #[.string p, .int .i64 (at_ + 1 : Nat)] ∧ Blk (wb.setCell ⟨rb, 1, none⟩ (.int .i64 u)) sb 116 (setArr s) ∧ Only (fun k => k = rb ∨ k = sb) w (wb.setCell ⟨rb, 1, none⟩ (.int .i64 u)) := by
        rintro u rfl
        exact ⟨hr'.out.store 1 _, hs'.out.other (fun e => hne e.symm) _, ho'.out.setCell (.inl (.inl rfl)) _⟩
      have fin' := Lib.hid fin; clear fin
      go_wp2_with fail
      · have h2 : 2 < q.size := by omega
        have h1 : (((q[1]'(by omega)).toNat : Nat) : Int) = 45 := by assumption
        go_meet
        case rel => exact ⟨by rw [rngB_ge h2, h1]; simp, fin'.out _ (by omega)⟩
      · have h2 : 2 < q.size := by omega
        have h1 : ¬ (((q[1]'(by omega)).toNat : Nat) : Int) = 45 := by assumption
        go_meet
        case rel => exact ⟨by rw [rngB_ge h2, decide_eq_false h1]; rfl, fin'.out _ (by omega)⟩
      · have h2 : q.size ≤ 2 := by omega
        go_meet
        case rel => exact ⟨by rw [rngB_lt h2], fin'.out _ (by omega)⟩
    case rest =>
      obtain ⟨rfl, hr1, hs1, ho1⟩ := hcut
      clear hr' hs' ho' c1 f1
      have c1 : wc.cell? ⟨rb, 1, none⟩ = some (.int .i64 (at_ + 1)) := (hr1.cell 1).trans rfl
      have f1 := hr1.frozen 1
      have hr' := Lib.hid hr1; clear hr1
      have hs' := Lib.hid hs1; clear hs1
      have ho' := Lib.hid ho1; clear ho1
      obtain ⟨wa, rfl⟩ : ∃ x : World, x = wc := ⟨_, rfl⟩
      go_upto_if 43 with fail
      go_cut [7] (fun tv wx => ∃ d n : Nat, tv = .int .u8 d ∧ Hid (G.mem (bs q) = some (c, d, n)) ∧ n ≤ q.size ∧ Blk wx rb 112 #[.string p, .int .i64 (at_ + n : Nat)] ∧ Blk wx sb 116 (setArr s) ∧ Only (fun k => k = rb ∨ k = sb) w wx)
      case first =>
        by_cases hb : rngB (bs q) = true
        · have h2 : 2 < q.size := rngB_size hb
          have hm := mem_rng hc.out h2 hb
          have hm' := Lib.hid hm; clear hm
          rw [hb]
          clear hb
          go_wp2_with fail
          go_meet
          case rel =>
            refine ⟨_, 3, rfl, hm'.out, by omega, ?_, hs'.out.other (fun e => hne e.symm) _, ho'.out.setCell (.inl (.inl rfl)) _⟩
            rw [show (at_ : Int) + 1 + 2 = ((at_ + 3 : Nat) : Int) from by omega]
            exact hr'.out.store 1 _
        · have hb' : rngB (bs q) = false := by simpa using hb
          have hm := mem_one hc.out hb'
          have hm' := Lib.hid hm; clear hm
          clear hb
          rw [hb']
          clear hb'
          go_wp2_with fail
          go_meet
          case rel => exact ⟨_, 1, rfl, hm'.out, by omega, hr'.out, hs'.out, ho'.out⟩
      case rest =>
        obtain ⟨d, n, rfl, hm, hn, hr1, hs1, ho1⟩ := hcut
        clear hr' hs' ho' c1 f1
        have hcd := mem_bound (l := (bs p).drop at_) (by rw [← hqb'.out]; exact hm.out) fun x hx => hall'.out x (List.mem_of_mem_drop hx)
        obtain ⟨hcb, hdb⟩ := hcd
        have hr' := Lib.hid hr1; clear hr1
        have hs' := Lib.hid hs1; clear hs1
        have ho' := Lib.hid ho1; clear ho1
        obtain ⟨wa, rfl⟩ : ∃ x : World, x = wc := ⟨_, rfl⟩
        go_wp2_with fail
        go_loopw [8] (fun b wr => ∃ k : Nat, c ≤ k ∧ k ≤ 127 ∧ (k ≤ d + 1 ∨ k = c) ∧ b = .int .u8 k ∧ Blk wr rb 112 #[.string p, .int .i64 (at_ + n : Nat)] ∧ Blk wr sb 116 (setArr (rngTo s c k)) ∧ Only (fun k => k = rb ∨ k = sb) w wr) (fun b _ => 127 - (intOf b).toNat)
        case atStart => exact ⟨c, by omega, by omega, .inr rfl, rfl, hr'.out, by rw [rngTo_start]; exact hs'.out, ho'.out⟩
        case round =>
          clear hr' hs' ho'
          obtain ⟨k, hk1, hk2, hk3, rfl, hr1, hs1, ho1⟩ := hrel
          obtain ⟨v, hv⟩ : ∃ v, k < 127 → wr.cell? ⟨sb, k, none⟩ = some v := ⟨_, fun h => (hs1.cell k).trans (setArr_get _ _ h)⟩
          have f1 := hs1.frozen k
          have hr' := Lib.hid hr1; clear hr1
          have hs' := Lib.hid hs1; clear hs1
          have ho' := Lib.hid ho1; clear ho1
          by_cases hk : k ≤ d
          · have hk4 : k < 127 := by omega
            go_wp2_with fail
            go_roundw
            case rel =>
              refine ⟨k + 1, by omega, by omega, .inl (by omega), by go_num, hr'.out.other hne _, ?_, ho'.out.setCell (.inl (.inr rfl)) _⟩
              rw [← rngTo_upd s c k hk1, ← setArr_upd]
              exact hs'.out.store k _
            case measure => simp [intOf]; omega
          · go_wp2_with fail
            go_ret
            refine ⟨c, d, n, by rw [← hqb'.out]; exact hm.out, by have := hqs'.out; omega, by simp, hr'.out, ?_, ho'.out⟩
            rcases hk3 with hk3 | rfl
            · obtain rfl : k = d + 1 := by omega
              rw [← rngTo_end]; exact hs'.out
            · rw [rng_none s (by omega)]
              have := hs'.out
              rw [rngTo_start] at this
              exact this

end Go.Proofs.Ytfihccfjboopiaa
