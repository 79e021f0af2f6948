/-
  THE WALK of glob's (*reader).member: a member of a set, laid into the set.
  THE WALK of glob.every: the set of all bytes from 32 to 126.
  THE WALKS of strings.HasPrefix at a text of one byte, and of name.Text.
  THE WALK of glob's (*reader).set: a set in brackets, behind its opening bracket.
-/
import Derived.Test.YtinjeijjfkkhbaaGreatDoorGlobMem
import Derived.Test.YtinjeijjfkkhbaaGreatDoorRows
namespace Go.Proofs.YtinjeijjfkkhbaaGreatDoor
open Go.RowKit

/-- Whether a member is a range. -/
def rngB : List Nat → Bool
  | _ :: d :: e :: _ => decide ((d : Int) = 45) && ((e : Int) != 93)
  | _ => false

theorem bs_three {q : ByteArray} (h2 : 2 < q.size) : ∃ r, bs q = (q[0]'(by omega)).toNat :: (q[1]'(by omega)).toNat :: (q[2]'h2).toNat :: r := by
  have h0 := get_bs q 0 (by omega)
  have h1 := get_bs q 1 (by omega)
  have h3 := get_bs q 2 h2
  match hl : bs q with
  | [] => rw [hl] at h0; cases h0
  | [_] => rw [hl] at h1; cases h1
  | [_, _] => rw [hl] at h3; cases h3
  | a :: b :: c :: r =>
    rw [hl] at h0 h1 h3
    simp at h0 h1 h3
    exact ⟨r, by rw [h0, h1, h3]⟩
theorem rngB_ge {q : ByteArray} (h2 : 2 < q.size) : rngB (bs q) = (decide (((q[1]'(by omega)).toNat : Int) = 45) && (((q[2]'h2).toNat : Int) != 93)) := by
  obtain ⟨r, hr⟩ := bs_three h2
  rw [hr]; rfl
theorem rngB_lt {q : ByteArray} (h : q.size ≤ 2) : rngB (bs q) = false := by
  have hl := length_bs q
  match hm : bs q with
  | [] => rfl
  | [_] => rfl
  | [_, _] => rfl
  | a :: b :: c :: r => rw [hm] at hl; simp at hl; omega
theorem rngB_size {q : ByteArray} (h : rngB (bs q) = true) : 2 < q.size := by
  rcases Nat.lt_or_ge 2 q.size with h2 | h2
  · exact h2
  · rw [rngB_lt h2] at h; cases h
theorem mem_rng {q : ByteArray} {c : Nat} (hc : (bs q)[0]? = some c) (h2 : 2 < q.size) (h : rngB (bs q) = true) : G.mem (bs q) = some (c, (q[2]'h2).toNat, 3) := by
  obtain ⟨r, hr⟩ := bs_three h2
  rw [hr] at hc h ⊢
  simp only [rngB, Bool.and_eq_true, decide_eq_true_eq, bne_iff_ne] at h
  simp at hc
  rw [G.mem, if_pos ⟨by omega, by have := h.2; omega⟩, hc]
theorem mem_one {l : List Nat} {c : Nat} (hc : l[0]? = some c) (h : rngB l = false) : G.mem l = some (c, c, 1) := by
  match l with
  | [] => cases hc
  | [a] => simp at hc; subst hc; rfl
  | [a, b] => simp at hc; subst hc; rfl
  | a :: b :: d :: r =>
    simp at hc
    subst hc
    rw [G.mem, if_neg]
    rintro ⟨h1, h2⟩
    rw [rngB] at h
    have e1 : decide ((b : Int) = 45) = true := by simp; omega
    have e2 : ((d : Int) != 93) = true := by rw [bne_iff_ne]; omega
    rw [e1, e2] at h
    cases h
theorem mem_bound {l : List Nat} {c d n B : Nat} (h : G.mem l = some (c, d, n)) (hall : ∀ x, x ∈ l → x ≤ B) : c ≤ B ∧ d ≤ B := by
  match l with
  | [] => cases h
  | [a] =>
    simp only [G.mem, Option.some.injEq, Prod.mk.injEq] at h
    obtain ⟨rfl, rfl, _⟩ := h
    exact ⟨hall _ (by simp), hall _ (by simp)⟩
  | [a, b] =>
    simp only [G.mem, Option.some.injEq, Prod.mk.injEq] at h
    obtain ⟨rfl, rfl, _⟩ := h
    exact ⟨hall _ (by simp), hall _ (by simp)⟩
  | a :: b :: e :: r =>
    by_cases hd : b = 45 ∧ e ≠ 93
    · rw [G.mem, if_pos hd] at h
      simp only [Option.some.injEq, Prod.mk.injEq] at h
      obtain ⟨rfl, rfl, _⟩ := h
      exact ⟨hall _ (by simp), hall _ (by simp)⟩
    · rw [G.mem, if_neg hd] at h
      simp only [Option.some.injEq, Prod.mk.injEq] at h
      obtain ⟨rfl, rfl, _⟩ := h
      exact ⟨hall _ (by simp), hall _ (by simp)⟩

/-- The bytes from c up to (not with) k beside those of s. -/
def rngTo (s : Nat → Bool) (c k : Nat) : Nat → Bool := fun i => s i || (decide (c ≤ i) && decide (i < k))
theorem rngTo_start (s : Nat → Bool) (c : Nat) : rngTo s c c = s := by
  funext i
  simp only [rngTo]
  by_cases h : c ≤ i
  · have : ¬ i < c := by omega
    simp [this]
  · simp [h]
theorem rngTo_upd (s : Nat → Bool) (c k : Nat) (h : c ≤ k) : upd (rngTo s c k) k true = rngTo s c (k + 1) := by
  funext i
  simp only [upd, rngTo]
  by_cases e : i = k
  · subst e
    have : i < i + 1 := by omega
    simp [h, this]
  · rw [if_neg e]
    have : (i < k + 1) = (i < k) := by simp; omega
    simp [this]
theorem rngTo_end (s : Nat → Bool) (c d : Nat) : rngTo s c (d + 1) = G.rng s c d := by
  funext i
  simp only [rngTo, G.rng]
  have : (i < d + 1) = (i ≤ d) := by simp; omega
  simp [this]
theorem rng_none (s : Nat → Bool) {c d : Nat} (h : d < c) : G.rng s c d = s := by
  funext i
  simp only [G.rng]
  by_cases h2 : c ≤ i
  · have : ¬ i ≤ d := by omega
    simp [this]
  · simp [h2]

set_option maxHeartbeats 1000000 in
theorem member_some (p : ByteArray) (at_ : Nat) (s : Nat → Bool) (rb sb : Nat) (w : World) (hr : Blk w rb 110 #[.string p, .int .i64 at_]) (hs : Blk w sb 114 (setArr s))
    (h0 : at_ < p.size) (hp : p.size ≤ 256) (hall : ∀ x, x ∈ bs p → x ≤ 126) :
    Calls Tryz.prog 100 #[.pointer (some ⟨rb, 0, none⟩), .pointer (some ⟨sb, 0, none⟩)] w fun e w' =>
      ∃ c d n, G.mem ((bs p).drop at_) = some (c, d, n) ∧ at_ + n ≤ p.size ∧ e = .returned (.bool (decide (c ≤ d))) ∧ Blk w' rb 110 #[.string p, .int .i64 (at_ + n : Nat)] ∧ Blk w' sb 114 (setArr (G.rng s c d)) ∧ Only (fun k => k = rb ∨ k = sb) w w' := by
  have hne : rb ≠ sb := hr.ne_ hs (by decide)
  have c0 : w.cell? ⟨rb, 0, none⟩ = some (.string p) := (hr.cell 0).trans rfl
  have c1 : w.cell? ⟨rb, 1, none⟩ = some (.int .i64 at_) := (hr.cell 1).trans rfl
  have hr' := Lib.hid hr; clear hr
  have hs' := Lib.hid hs; clear hs
  have hall' := Lib.hid hall; clear hall
  have hq0 : (p.extract at_ p.size).toList.isEmpty = false := isEmpty_pos (by rw [size_rest]; omega)
  have hqs := size_rest p at_
  have hqb := bs_extract p at_
  have hqs' := Lib.hid hqs; clear hqs
  have hqb' := Lib.hid hqb; clear hqb
  go_enter Tryz.func100, Tryz.ntmps100
  go_wp2_with fail
  go_quiet (fail)
  generalize hq : p.extract at_ p.size = q at *
  clear hq
  have hq1 : 0 < q.size := by have := hqs'.out; omega
  have hq2 : q.size ≤ 256 := by have := hqs'.out; omega
  go_upto_region 4 with fail
  go_cut [6, 7] (fun fr tv wx => ∃ c : Nat, fr = .int .u8 c ∧ tv = .int .u8 c ∧ Hid ((bs q)[0]? = some c) ∧ Blk wx rb 110 #[.string p, .int .i64 at_] ∧ Blk wx sb 114 (setArr s) ∧ Only (fun k => k = rb ∨ k = sb) w wx)
  case first =>
    go_quiet (fail)
    go_wp2_with fail
    go_meet
    case rel => exact ⟨_, rfl, rfl, get_bs q 0 hq1, (hr'.out.drewN _).drewN _, (hs'.out.drewN _).drewN _, ((Only.refl _ _).drewN _).drewN _⟩
  case rest =>
    obtain ⟨c, rfl, rfl, hc, hr1, hs1, ho1⟩ := hcut
    clear hr' hs' c0 c1
    have c1 : wc.cell? ⟨rb, 1, none⟩ = some (.int .i64 at_) := (hr1.cell 1).trans rfl
    have f1 := hr1.frozen 1
    have hr' := Lib.hid hr1; clear hr1
    have hs' := Lib.hid hs1; clear hs1
    have ho' := Lib.hid ho1; clear ho1
    obtain ⟨wb, rfl⟩ : ∃ x : World, x = wc := ⟨_, rfl⟩
    go_upto_region 6 with fail
    go_cut [43] (fun b wx => b = .bool (rngB (bs q)) ∧ Blk wx rb 110 #[.string p, .int .i64 (at_ + 1 : Nat)] ∧ Blk wx sb 114 (setArr s) ∧ Only (fun k => k = rb ∨ k = sb) w wx)
    case first =>
      have fin : ∀ u : Int, u = (at_ + 1 : Nat) → Blk (wb.setCell ⟨rb, 1, none⟩ (.int .i64 u)) rb 110 #[.string p, .int .i64 (at_ + 1 : Nat)] ∧ Blk (wb.setCell ⟨rb, 1, none⟩ (.int .i64 u)) sb 114 (setArr s) ∧ Only (fun k => k = rb ∨ k = sb) w (wb.setCell ⟨rb, 1, none⟩ (.int .i64 u)) := by
        rintro u rfl
        exact ⟨hr'.out.store 1 _, hs'.out.other (fun e => hne e.symm) _, ho'.out.setCell (.inl (.inl rfl)) _⟩
      have fin' := Lib.hid fin; clear fin
      go_wp2_with fail
      · have h2 : 2 < q.size := by omega
        have h1 : (((q[1]'(by omega)).toNat : Nat) : Int) = 45 := by assumption
        go_meet
        case rel => exact ⟨by rw [rngB_ge h2, h1]; simp, fin'.out _ (by omega)⟩
      · have h2 : 2 < q.size := by omega
        have h1 : ¬ (((q[1]'(by omega)).toNat : Nat) : Int) = 45 := by assumption
        go_meet
        case rel => exact ⟨by rw [rngB_ge h2, decide_eq_false h1]; rfl, fin'.out _ (by omega)⟩
      · have h2 : q.size ≤ 2 := by omega
        go_meet
        case rel => exact ⟨by rw [rngB_lt h2], fin'.out _ (by omega)⟩
    case rest =>
      obtain ⟨rfl, hr1, hs1, ho1⟩ := hcut
      clear hr' hs' ho' c1 f1
      have c1 : wc.cell? ⟨rb, 1, none⟩ = some (.int .i64 (at_ + 1)) := (hr1.cell 1).trans rfl
      have f1 := hr1.frozen 1
      have hr' := Lib.hid hr1; clear hr1
      have hs' := Lib.hid hs1; clear hs1
      have ho' := Lib.hid ho1; clear ho1
      obtain ⟨wa, rfl⟩ : ∃ x : World, x = wc := ⟨_, rfl⟩
      go_upto_if 43 with fail
      go_cut [7] (fun tv wx => ∃ d n : Nat, tv = .int .u8 d ∧ Hid (G.mem (bs q) = some (c, d, n)) ∧ n ≤ q.size ∧ Blk wx rb 110 #[.string p, .int .i64 (at_ + n : Nat)] ∧ Blk wx sb 114 (setArr s) ∧ Only (fun k => k = rb ∨ k = sb) w wx)
      case first =>
        by_cases hb : rngB (bs q) = true
        · have h2 : 2 < q.size := rngB_size hb
          have hm := mem_rng hc.out h2 hb
          have hm' := Lib.hid hm; clear hm
          rw [hb]
          clear hb
          go_wp2_with fail
          go_meet
          case rel =>
            refine ⟨_, 3, rfl, hm'.out, by omega, ?_, hs'.out.other (fun e => hne e.symm) _, ho'.out.setCell (.inl (.inl rfl)) _⟩
            rw [show (at_ : Int) + 1 + 2 = ((at_ + 3 : Nat) : Int) from by omega]
            exact hr'.out.store 1 _
        · have hb' : rngB (bs q) = false := by simpa using hb
          have hm := mem_one hc.out hb'
          have hm' := Lib.hid hm; clear hm
          clear hb
          rw [hb']
          clear hb'
          go_wp2_with fail
          go_meet
          case rel => exact ⟨_, 1, rfl, hm'.out, by omega, hr'.out, hs'.out, ho'.out⟩
      case rest =>
        obtain ⟨d, n, rfl, hm, hn, hr1, hs1, ho1⟩ := hcut
        clear hr' hs' ho' c1 f1
        have hcd := mem_bound (l := (bs p).drop at_) (by rw [← hqb'.out]; exact hm.out) fun x hx => hall'.out x (List.mem_of_mem_drop hx)
        obtain ⟨hcb, hdb⟩ := hcd
        have hr' := Lib.hid hr1; clear hr1
        have hs' := Lib.hid hs1; clear hs1
        have ho' := Lib.hid ho1; clear ho1
        obtain ⟨wa, rfl⟩ : ∃ x : World, x = wc := ⟨_, rfl⟩
        go_wp2_with fail
        go_loopw [8] (fun b wr => ∃ k : Nat, c ≤ k ∧ k ≤ 127 ∧ (k ≤ d + 1 ∨ k = c) ∧ b = .int .u8 k ∧ Blk wr rb 110 #[.string p, .int .i64 (at_ + n : Nat)] ∧ Blk wr sb 114 (setArr (rngTo s c k)) ∧ Only (fun k => k = rb ∨ k = sb) w wr) (fun b _ => 127 - (intOf b).toNat)
        case atStart => exact ⟨c, by omega, by omega, .inr rfl, rfl, hr'.out, by rw [rngTo_start]; exact hs'.out, ho'.out⟩
        case round =>
          clear hr' hs' ho'
          obtain ⟨k, hk1, hk2, hk3, rfl, hr1, hs1, ho1⟩ := hrel
          obtain ⟨v, hv⟩ : ∃ v, k < 127 → wr.cell? ⟨sb, k, none⟩ = some v := ⟨_, fun h => (hs1.cell k).trans (setArr_get _ _ h)⟩
          have f1 := hs1.frozen k
          have hr' := Lib.hid hr1; clear hr1
          have hs' := Lib.hid hs1; clear hs1
          have ho' := Lib.hid ho1; clear ho1
          by_cases hk : k ≤ d
          · have hk4 : k < 127 := by omega
            go_wp2_with fail
            go_roundw
            case rel =>
              refine ⟨k + 1, by omega, by omega, .inl (by omega), by go_num, hr'.out.other hne _, ?_, ho'.out.setCell (.inl (.inr rfl)) _⟩
              rw [← rngTo_upd s c k hk1, ← setArr_upd]
              exact hs'.out.store k _
            case measure => simp [intOf]; omega
          · go_wp2_with fail
            go_ret
            refine ⟨c, d, n, by rw [← hqb'.out]; exact hm.out, by have := hqs'.out; omega, by simp, hr'.out, ?_, ho'.out⟩
            rcases hk3 with hk3 | rfl
            · obtain rfl : k = d + 1 := by omega
              rw [← rngTo_end]; exact hs'.out
            · rw [rng_none s (by omega)]
              have := hs'.out
              rw [rngTo_start] at this
              exact this

end Go.Proofs.YtinjeijjfkkhbaaGreatDoor

namespace Go.Proofs.YtinjeijjfkkhbaaGreatDoor
open Go.RowKit

set_option maxHeartbeats 400000 in
theorem every_any (w : World) : Calls Tryz.prog 89 #[] w fun e w' => e = .returned (.agg (setArr G.pr)) ∧ Below w.heap.size w w' := by
  go_enter Tryz.func89, Tryz.ntmps89
  go_wp2_with fail
  go_loopw [2] (fun i wr => ∃ k : Nat, 32 ≤ k ∧ k ≤ 127 ∧ i = .int .i64 k ∧ Below w.heap.size w wr ∧ Blk wr (w.heap.size) 114 (setArr G.none') ∧ Blk wr (w.heap.size + 1) 114 (setArr (prTo k))) (fun i _ => 127 - (intOf i).toNat)
  case atStart =>
    refine ⟨32, by omega, by omega, rfl, ((Below.refl _ _).alloc (Nat.le_refl _) _).alloc (by simp) _, ?_, ?_⟩
    · rw [zero_set]; exact (Blk.new _ _ _).alloc _
    · rw [prTo_32, zero_set]; exact Blk.new_ (w.alloc _) _ _ (by simp)
  case round =>
    obtain ⟨k, h1, h2, rfl, hb, H1, H2⟩ := hrel
    obtain ⟨v, hc⟩ : ∃ v, k < 127 → wr.cell? ⟨w.heap.size + 1, k, none⟩ = some v := ⟨_, fun h => (H2.cell k).trans (setArr_get _ _ h)⟩
    have hf := H2.frozen k
    have H1' := Lib.hid H1; clear H1
    have H2' := Lib.hid H2; clear H2
    have hb' := Lib.hid hb; clear hb
    by_cases hk : k < 127
    · go_wp2_with fail
      go_roundw
      case rel =>
        refine ⟨k + 1, by omega, by omega, by go_num, hb'.out.setCell (by simp) _, H1'.out.other (by simp) _, ?_⟩
        rw [← prTo_upd k h1, ← setArr_upd]
        exact H2'.out.store k _
      case measure => simp [intOf]; omega
    · obtain rfl : k = 127 := by omega
      go_wp2_with (first
        | (refine wpList_load_row rfl 114 (.tmp 1) rfl (w.heap.size + 1) rfl 114 _ (0, 0) _ H2'.out Tryz.underlying114 rfl (sizeSet' _) ?_)
        | (refine wpList_store_row rfl 114 (.tmp 0) (.tmp 9) rfl w.heap.size _ rfl rfl 114 _ H1'.out (sizeSet' _) (by rw [size_setArr, size_setArr]) (one_setArr _) ?_))
      refine bodyPost_ret (results_cell_row rfl _ _ w.heap.size 114 _ (0, 0) _ rfl (H1'.out.row _) Tryz.underlying114 rfl (sizeSet' _)) rfl ⟨by rw [prTo_127], below_row hb'.out (Nat.le_refl _) _⟩

end Go.Proofs.YtinjeijjfkkhbaaGreatDoor

namespace Go.Proofs.YtinjeijjfkkhbaaGreatDoor
open Go.RowKit

/-- Whether a text begins with a byte. -/
def headB (l : List Nat) (c : Nat) : Bool := match l with
  | [] => false
  | x :: _ => x == c

theorem headB_pos {q : ByteArray} (h : 0 < q.size) (c : UInt8) : ((q.extract 0 1).toList == [c]) = headB (bs q) c.toNat := by
  have h0 := get_bs q 0 h
  rw [ByteArray.toList_eq, ByteArray.data_extract]
  match hl : q.data.toList with
  | [] =>
    have : q.data.toList.length = q.size := by simp
    rw [hl] at this
    simp at this
    omega
  | a :: r =>
    have e1 : (q.data.extract 0 1).toList = [a] := by
      rw [Array.toList_extract, hl]
      rfl
    rw [e1]
    unfold bs
    rw [hl]
    simp only [List.map_cons, headB]
    by_cases h : a = c
    · subst h; simp
    · have h2 : ¬ a.toNat = c.toNat := fun e => h (UInt8.toNat_inj.1 e)
      have g1 : (a == c) = false := beq_eq_false_iff_ne.2 h
      have g2 : (a.toNat == c.toNat) = false := beq_eq_false_iff_ne.2 h2
      rw [g2]
      simpa using h
theorem headB_zero {q : ByteArray} (h : q.size = 0) (c : Nat) : headB (bs q) c = false := by
  have := length_bs q
  match hm : bs q with
  | [] => rfl
  | a :: r => rw [hm, h] at this; cases this

set_option maxHeartbeats 400000 in
theorem hasHead (q : ByteArray) (c : UInt8) (w : World) (hq : q.size ≤ 1000000000) :
    Calls Tryz.prog 84 #[.string q, .string ⟨#[c]⟩] w fun e w' => e = .returned (.bool (headB (bs q) c.toNat)) ∧ w = w' := by
  by_cases h : 0 < q.size
  · have h1 : (1 : Int) ≤ (q.size : Int) := by omega
    have h2 : 1 ≤ q.size := by omega
    have he := headB_pos h c
    generalize headB (bs q) c.toNat = b at *
    go_enter Tryz.func84, Tryz.ntmps84
    go_wp2
    all_goals go_ret
    all_goals (refine ⟨?_, rfl⟩)
    all_goals simp_all
  · have h0 : q.size = 0 := by omega
    rw [headB_zero h0]
    have h1 : ¬ (1 : Int) ≤ (q.size : Int) := by omega
    go_enter Tryz.func84, Tryz.ntmps84
    go_wp2
    all_goals go_ret
    all_goals simp_all

theorem hasHead_is (q : ByteArray) (c : UInt8) (b : Bool) (w : World) (hq : q.size ≤ 1000000000) (h : headB (bs q) c.toNat = b) :
    Calls Tryz.prog 84 #[.string q, .string ⟨#[c]⟩] w fun e w' => e = .returned (.bool b) ∧ w = w' := by
  rw [← h]; exact hasHead q c w hq

/-- Whether a text is one of at most 256 bytes from 32 to 126. -/
def textB (s : ByteArray) : Bool := (bs s).all G.pr && decide (s.size ≤ 256)

theorem pr_no {s : ByteArray} {k : Nat} (hk : k < s.size) (h : ((s[k]'hk).toNat : Int) < 32 ∨ (126 : Int) < ((s[k]'hk).toNat : Int)) : (bs s).all G.pr = false := by
  rw [← Bool.not_eq_true, List.all_eq_true]
  intro hall
  have := hall _ (List.mem_of_getElem? (get_bs s k hk))
  simp only [G.pr, Bool.and_eq_true, decide_eq_true_eq] at this
  omega
theorem pr_step {s : ByteArray} {k : Nat} (hk : k < s.size) (h1 : ¬ ((s[k]'hk).toNat : Int) < 32) (h2 : ¬ (126 : Int) < ((s[k]'hk).toNat : Int)) (h : ((bs s).take k).all G.pr = true) : ((bs s).take (k + 1)).all G.pr = true := by
  rw [List.take_add_one, List.all_append, h, get_bs s k hk]
  simp [G.pr]
  omega

set_option maxHeartbeats 400000 in
theorem text_any (s : ByteArray) (w : World) (hs : s.size ≤ 4611686018427387904) :
    Calls Tryz.prog 76 #[.string s] w fun e w' => e = .returned (.bool (textB s)) ∧ w = w' := by
  unfold textB
  go_enter Tryz.func76, Tryz.ntmps76
  go_wp2_with fail
  go_loop [6] (fun i => ∃ k : Nat, k ≤ s.size ∧ i = .int .i64 k ∧ Hid (((bs s).take k).all G.pr = true)) (fun i => s.size - (intOf i).toNat)
  case atStart => exact ⟨0, by omega, rfl, by simp [Hid]⟩
  case round =>
    obtain ⟨k, hk, rfl, ha⟩ := hrel
    by_cases hlt : k < s.size
    · have n1 := fun h => pr_no (s := s) (k := k) hlt h
      have n1' := Lib.hid n1; clear n1
      have n2 := fun h1 h2 => pr_step (s := s) (k := k) hlt h1 h2 ha.out
      have n2' := Lib.hid n2; clear n2
      go_wp2
      · have h : ((s[k]'hlt).toNat : Int) < 32 ∨ (126 : Int) < ((s[k]'hlt).toNat : Int) := by assumption
        go_ret
        exact ⟨by rw [n1'.out h]; rfl, rfl⟩
      · have h : (32 : Int) ≤ ((s[k]'hlt).toNat : Int) ∧ ((s[k]'hlt).toNat : Int) ≤ 126 := by assumption
        refine ⟨⟨k + 1, by omega, by go_num, n2'.out (by omega) (by omega)⟩, ?_⟩
        simp [intOf]
        omega
      · have h : ((s[k]'hlt).toNat : Int) < 32 := by assumption
        go_ret
        exact ⟨by rw [n1'.out (.inl h)]; rfl, rfl⟩
    · have hall : (bs s).all G.pr = true := by
        have := ha.out
        rwa [List.take_of_length_le (by rw [length_bs]; omega)] at this
      have hall' := Lib.hid hall; clear hall
      go_wp2
      go_ret
      refine ⟨?_, rfl⟩
      rw [hall'.out, Bool.true_and]
      simp
      omega

end Go.Proofs.YtinjeijjfkkhbaaGreatDoor

namespace Go.Proofs.YtinjeijjfkkhbaaGreatDoor
open Go.RowKit

set_option maxHeartbeats 400000 in
/-- There is no member at the end of the text. -/
theorem member_none (p : ByteArray) (k : Nat) (s : Nat → Bool) (rb sb : Nat) (w : World) (hr : Blk w rb 110 #[.string p, .int .i64 k]) (hs : Blk w sb 114 (setArr s)) (hk : k = p.size) :
    Calls Tryz.prog 100 #[.pointer (some ⟨rb, 0, none⟩), .pointer (some ⟨sb, 0, none⟩)] w fun e w' => e = .returned (.bool false) ∧ ∃ n, w' = w.drewN n := by
  have c0 : w.cell? ⟨rb, 0, none⟩ = some (.string p) := (hr.cell 0).trans rfl
  have c1 : w.cell? ⟨rb, 1, none⟩ = some (.int .i64 k) := (hr.cell 1).trans rfl
  have hr' := Lib.hid hr; clear hr
  have hs' := Lib.hid hs; clear hs
  have hq0 : (p.extract k p.size).toList.isEmpty = true := isEmpty_zero (by rw [size_rest]; omega)
  have hk' : k ≤ p.size := by omega
  clear hk
  go_enter Tryz.func100, Tryz.ntmps100
  go_wp2_with fail
  go_quiet (fail)
  go_wp2_with fail
  go_ret
  exact ⟨rfl, _, rfl⟩

/-- What the reader makes of what stands behind an opening bracket. -/
def opened (acc : List (List G.El)) : List Nat → Option (List (List G.El))
  | [] => none
  | d :: r => if d = 33 then G.go (.set true true G.none') acc r else G.go (.set false true G.none') acc (d :: r)
theorem go_opened (acc : List (List G.El)) (r : List Nat) : G.go .out acc (91 :: r) = opened acc r := by
  cases r with
  | nil => simp [G.go, opened]
  | cons d r => simp [G.go, opened]

theorem mem_has {l : List Nat} {c d n : Nat} (h : G.mem l = some (c, d, n)) : c ∈ l ∧ d ∈ l := by
  match l with
  | [] => cases h
  | [a] =>
    simp only [G.mem, Option.some.injEq, Prod.mk.injEq] at h
    obtain ⟨rfl, rfl, _⟩ := h
    simp
  | [a, b] =>
    simp only [G.mem, Option.some.injEq, Prod.mk.injEq] at h
    obtain ⟨rfl, rfl, _⟩ := h
    simp
  | a :: b :: e :: r =>
    by_cases hd : b = 45 ∧ e ≠ 93
    · rw [G.mem, if_pos hd] at h
      simp only [Option.some.injEq, Prod.mk.injEq] at h
      obtain ⟨rfl, rfl, _⟩ := h
      simp
    · rw [G.mem, if_neg hd] at h
      simp only [Option.some.injEq, Prod.mk.injEq] at h
      obtain ⟨rfl, rfl, _⟩ := h
      simp

/-- How 'set' answers: with the set, or with no set; the reader stands at a2. -/
def SetDone (l : List Nat) (a : Nat) (s : Nat → Bool) (ok : Bool) (a2 : Nat) : Prop :=
  (ok = true → ∀ acc, opened acc (l.drop a) = G.go .out (G.app acc (G.setEl s)) (l.drop a2)) ∧ (ok = false → ∀ acc, opened acc (l.drop a) = none)

/-- What holds while the members are read. -/
def SetAt (l : List Nat) (a : Nat) (neg first : Bool) (s : Nat → Bool) (k : Nat) : Prop :=
  (∀ acc, opened acc (l.drop a) = G.go (.set neg first s) acc (l.drop k)) ∧ ∀ i, s i = true → G.pr i = true

theorem SetAt.start {l : List Nat} {a : Nat} (h : headB (l.drop a) 33 = false) : SetAt l a false true G.none' a := by
  refine ⟨fun acc => ?_, fun i h => by cases h⟩
  match hl : l.drop a with
  | [] => rw [G.go_end]; rfl
  | d :: r =>
    rw [hl] at h
    have : ¬ d = 33 := by simpa [headB] using h
    rw [opened, if_neg this]
theorem SetAt.startNot {l : List Nat} {a : Nat} (h : headB (l.drop a) 33 = true) : SetAt l a true true G.none' (a + 1) := by
  refine ⟨fun acc => ?_, fun i h => by cases h⟩
  match hl : l.drop a with
  | [] => rw [hl] at h; cases h
  | d :: r =>
    rw [hl] at h
    have : d = 33 := by simpa [headB] using h
    rw [opened, if_pos this, ← List.drop_drop, hl]
    rfl
theorem SetAt.member {l : List Nat} {a k : Nat} {neg first : Bool} {s : Nat → Bool} (h : SetAt l a neg first s k) {c d n : Nat} (hm : G.mem (l.drop k) = some (c, d, n)) (h93 : headB (l.drop k) 93 = false) (hcd : c ≤ d)
    (hall : ∀ x, x ∈ l → G.pr x = true) : SetAt l a neg false (G.rng s c d) (k + n) := by
  refine ⟨fun acc => ?_, fun i hi => ?_⟩
  · rw [h.1 acc, G.go_mem hm, if_pos hcd, List.drop_drop]
    intro e
    match hl : l.drop k with
    | [] => rw [hl] at e; cases e
    | x :: r =>
      rw [hl] at e h93
      simp at e
      simp [headB] at h93
      exact h93 e
  · simp only [G.rng, Bool.or_eq_true, Bool.and_eq_true, decide_eq_true_eq] at hi
    rcases hi with hi | hi
    · exact h.2 i hi
    · have hc := mem_has hm
      have h1 := hall c (List.mem_of_mem_drop hc.1)
      have h2 := hall d (List.mem_of_mem_drop hc.2)
      simp only [G.pr, Bool.and_eq_true, decide_eq_true_eq] at h1 h2 ⊢
      omega
theorem SetAt.fall {l : List Nat} {a k : Nat} {neg first : Bool} {s s' : Nat → Bool} {k' : Nat} (h : SetAt l a neg first s k) {c d n : Nat} (hm : G.mem (l.drop k) = some (c, d, n)) (h93 : headB (l.drop k) 93 = false) (hcd : ¬ c ≤ d) : SetDone l a s' false k' := by
  refine ⟨fun e => (by cases e), fun _ acc => ?_⟩
  rw [h.1 acc, G.go_mem hm, if_neg hcd]
  intro e
  match hl : l.drop k with
  | [] => rw [hl] at e; cases e
  | x :: r =>
    rw [hl] at e h93
    simp at e
    simp [headB] at h93
    exact h93 e
theorem SetAt.out {l : List Nat} {a k : Nat} {neg first : Bool} {s s' : Nat → Bool} {k' : Nat} (h : SetAt l a neg first s k) (hk : l.length ≤ k) : SetDone l a s' false k' := by
  refine ⟨fun e => (by cases e), fun _ acc => ?_⟩
  rw [h.1 acc, List.drop_eq_nil_of_le hk, G.go_end]
theorem head93 {l : List Nat} (h : headB l 93 = true) : ∃ r, l = 93 :: r := by
  match l with
  | [] => cases h
  | x :: r =>
    have : x = 93 := by simpa [headB] using h
    exact ⟨r, by rw [this]⟩
theorem SetAt.empty {l : List Nat} {a k : Nat} {neg : Bool} {s s' : Nat → Bool} {k' : Nat} (h : SetAt l a neg true s k) (h93 : headB (l.drop k) 93 = true) : SetDone l a s' false k' := by
  refine ⟨fun e => (by cases e), fun _ acc => ?_⟩
  obtain ⟨r, hr⟩ := head93 h93
  rw [h.1 acc, hr, G.go_close, if_pos rfl]
theorem SetAt.close {l : List Nat} {a k : Nat} {neg : Bool} {s : Nat → Bool} (h : SetAt l a neg false s k) (h93 : headB (l.drop k) 93 = true) : SetDone l a (G.fin neg s) true (k + 1) := by
  refine ⟨fun _ acc => ?_, fun e => (by cases e)⟩
  obtain ⟨r, hr⟩ := head93 h93
  rw [h.1 acc, ← List.drop_drop, hr, G.go_close]
  rfl

/-- The second loop of 'set': the bytes from 32 up to (not with) k are turned. -/
def turnTo (s : Nat → Bool) (k : Nat) : Nat → Bool := fun i => if 32 ≤ i ∧ i < k then !s i else s i
theorem turnTo_start (s : Nat → Bool) : turnTo s 32 = s := by
  funext i
  simp only [turnTo]
  rw [if_neg (by omega)]
theorem turnTo_upd (s : Nat → Bool) (k : Nat) (h : 32 ≤ k) : upd (turnTo s k) k (!(turnTo s k k)) = turnTo s (k + 1) := by
  funext i
  simp only [upd, turnTo]
  by_cases e : i = k
  · subst e
    rw [if_pos rfl, if_neg (by omega), if_pos (by omega)]
  · rw [if_neg e]
    by_cases h2 : 32 ≤ i ∧ i < k
    · rw [if_pos h2, if_pos (by omega)]
    · rw [if_neg h2, if_neg (by omega)]
theorem turnTo_end {s : Nat → Bool} (h : ∀ i, s i = true → G.pr i = true) : setArr (turnTo s 127) = setArr (G.fin true s) := setArr_congr fun i hi => by
  simp only [turnTo, G.fin, if_true]
  by_cases h2 : 32 ≤ i ∧ i < 127
  · rw [if_pos h2]
    have : G.pr i = true := by simp [G.pr]; omega
    rw [this]; rfl
  · rw [if_neg h2]
    have : G.pr i = false := by simp [G.pr]; omega
    rw [this]
    cases hs : s i with
    | false => rfl
    | true => rw [h i hs] at this; cases this

/-- Where the reader in block rb stands. -/
def placeOf (w : World) (rb : Nat) : Nat := (intOf ((w.cell? ⟨rb, 1, none⟩).getD undef)).toNat
theorem placeOf_blk {w : World} {rb : Nat} {t : TypeId} {v : Value} {k : Nat} (h : Blk w rb t #[v, .int .i64 k]) : placeOf w rb = k := by
  unfold placeOf
  rw [h.cell 1]
  rfl

/-- What 'set' answers, and what it leaves. -/
def SetPost (p : ByteArray) (at_ rb : Nat) (w : World) (e : Ending) (w' : World) : Prop :=
  ∃ s ok a2, e = .returned (.tuple #[.agg (setArr s), .bool ok]) ∧ at_ ≤ a2 ∧ a2 ≤ p.size ∧ SetDone (bs p) at_ s ok a2 ∧ Blk w' rb 110 #[.string p, .int .i64 a2] ∧ Only (fun k => k = rb) w w'

set_option maxRecDepth 100000 in
set_option maxHeartbeats 2000000 in
theorem set_any (p : ByteArray) (at_ : Nat) (rb : Nat) (w : World) (hr : Blk w rb 110 #[.string p, .int .i64 at_]) (h0 : at_ ≤ p.size) (hp : p.size ≤ 256) (hall : ∀ x, x ∈ bs p → G.pr x = true) :
    Calls Tryz.prog 90 #[.pointer (some ⟨rb, 0, none⟩)] w (SetPost p at_ rb w) := by
  have hlt := hr.lt
  have c0 : w.cell? ⟨rb, 0, none⟩ = some (.string p) := (hr.cell 0).trans rfl
  have c1 : w.cell? ⟨rb, 1, none⟩ = some (.int .i64 at_) := (hr.cell 1).trans rfl
  have hr' := Lib.hid hr; clear hr
  have hall' := Lib.hid hall; clear hall
  have hq2 : (p.extract at_ p.size).size ≤ 1000000000 := by rw [size_rest]; omega
  have hqb := bs_extract p at_
  have hqb' := Lib.hid hqb; clear hqb
  go_enter Tryz.func90, Tryz.ntmps90
  go_wp2_with fail
  go_upto_region 2 with fail
  go_cut [5] (fun b wx => b = .bool (headB ((bs p).drop at_) 33) ∧ Blk wx rb 110 #[.string p, .int .i64 at_] ∧ Blk wx w.heap.size 114 (setArr G.none') ∧ Blk wx (w.heap.size + 1) 114 (setArr G.none') ∧ Only (fun k => k = rb) w wx)
  case first =>
    go_quiet ((go_at_call 84; exact quiet_left (hasHead _ 33 _ (by omega))))
    go_wp2_with fail
    go_meet
    case rel =>
      have hr := hr'.out
      refine ⟨by rw [hqb'.out]; rfl, ((hr.alloc _).alloc _).drewN _, ?_, ?_, (((Only.refl _ _).alloc _).alloc _).drewN _⟩
      · rw [zero_set]; exact ((Blk.new _ _ _).alloc _).drewN _
      · rw [zero_set]; exact (Blk.new_ (w.alloc _) _ _ (by simp)).drewN _
  case rest =>
    obtain ⟨rfl, hr1, hd1, hs1, ho1⟩ := hcut
    clear hr' hqb' c0 c1 hq2
    generalize hneg : headB ((bs p).drop at_) 33 = neg at *
    have hneg' := Lib.hid hneg; clear hneg
    have c1 : wc.cell? ⟨rb, 1, none⟩ = some (.int .i64 at_) := (hr1.cell 1).trans rfl
    have f1 := hr1.frozen 1
    have hz1 := ho1.size
    have hr' := Lib.hid hr1; clear hr1
    have hd' := Lib.hid hd1; clear hd1
    have hs' := Lib.hid hs1; clear hs1
    have ho' := Lib.hid ho1; clear ho1
    obtain ⟨wa, rfl⟩ : ∃ x : World, x = wc := ⟨_, rfl⟩
    go_upto_if 19 with fail
    go_cut [] (fun wx => ∃ k0 : Nat, at_ ≤ k0 ∧ k0 ≤ p.size ∧ SetAt (bs p) at_ neg true G.none' k0 ∧ Blk wx rb 110 #[.string p, .int .i64 k0] ∧ Blk wx w.heap.size 114 (setArr G.none') ∧ Blk wx (w.heap.size + 1) 114 (setArr G.none') ∧ Only (fun k => k = rb) w wx)
    case first =>
      cases neg with
      | true =>
        go_wp2_with fail
        go_meet
        case rel =>
          have hl : at_ < p.size := by
            have := hneg'.out
            rcases Nat.lt_or_ge at_ p.size with h | h
            · exact h
            · rw [List.drop_eq_nil_of_le (by rw [length_bs]; omega)] at this; cases this
          refine ⟨at_ + 1, by omega, by omega, SetAt.startNot hneg'.out, ?_, hd'.out.other (by simp; omega) _, hs'.out.other (by simp; omega) _, ho'.out.setCell (.inl rfl) _⟩
          have := hr'.out.store 1 (.int .i64 (at_ + 1 : Nat))
          exact this
      | false =>
        go_wp2_with fail
        go_meet
        case rel => exact ⟨at_, by omega, by omega, SetAt.start hneg'.out, hr'.out, hd'.out, hs'.out, ho'.out⟩
    case rest =>
      obtain ⟨k0, hk0, hk0', hst, hr1, hd1, hs1, ho1⟩ := hcut
      clear hr' hd' hs' ho' c1 f1 hneg'
      have c1 : wc.cell? ⟨rb, 1, none⟩ = some (.int .i64 k0) := (hr1.cell 1).trans rfl
      have hr' := Lib.hid hr1; clear hr1
      have hd' := Lib.hid hd1; clear hd1
      have hs' := Lib.hid hs1; clear hs1
      have ho' := Lib.hid ho1; clear ho1
      have hst' := Lib.hid hst; clear hst
      obtain ⟨wb, rfl⟩ : ∃ x : World, x = wc := ⟨_, rfl⟩
      go_wp2_with fail
      go_loopw [49] (fun _ wr => ∃ (k : Nat) (s : Nat → Bool), k0 ≤ k ∧ k ≤ p.size ∧ SetAt (bs p) at_ neg (decide (k = k0)) s k ∧ Blk wr rb 110 #[.string p, .int .i64 k] ∧ Blk wr w.heap.size 114 (setArr G.none') ∧ Blk wr (w.heap.size + 1) 114 (setArr s) ∧ Only (fun k => k = rb) w wr) (fun _ wr => p.size - placeOf wr rb)
      case atStart => exact ⟨k0, G.none', by omega, by omega, by rw [decide_eq_true rfl]; exact hst'.out, hr'.out, hd'.out, hs'.out, ho'.out⟩
      case round =>
        clear hr' hd' hs' ho' hst' c1
        obtain ⟨k, s, hk, hk', hst, hr1, hd1, hs1, ho1⟩ := hrel
        have hpl := placeOf_blk hr1
        have hpl' := Lib.hid hpl; clear hpl
        have c0 : wr.cell? ⟨rb, 0, none⟩ = some (.string p) := (hr1.cell 0).trans rfl
        have c1 : wr.cell? ⟨rb, 1, none⟩ = some (.int .i64 k) := (hr1.cell 1).trans rfl
        have hr' := Lib.hid hr1; clear hr1
        have hd' := Lib.hid hd1; clear hd1
        have hs' := Lib.hid hs1; clear hs1
        have ho' := Lib.hid ho1; clear ho1
        have hst' := Lib.hid hst; clear hst
        have hq2 : (p.extract k p.size).size ≤ 1000000000 := by rw [size_rest]; omega
        have hqb := bs_extract p k
        have hqb' := Lib.hid hqb; clear hqb
        obtain ⟨wo, rfl⟩ : ∃ x : World, x = wr := ⟨_, rfl⟩
        go_upto_region 6 with fail
        go_cut [49] (fun b wx => b = .bool (decide (k = k0) || !headB ((bs p).drop k) 93) ∧ ∃ n, wx = wo.drewN n)
        case first =>
          by_cases hf : k = k0
          · subst hf
            have hb : ((k : Int) == (k : Int)) = true := by simp
            go_quiet ((go_at_call 84; exact quiet_left (hasHead _ 93 _ (by omega))))
            go_wp2_with fail
            go_meet
            case rel => exact ⟨by simp, _, rfl⟩
          · have hb : ((k : Int) == (k0 : Int)) = false := by rw [beq_eq_false_iff_ne]; omega
            go_quiet ((go_at_call 84; exact quiet_left (hasHead _ 93 _ (by omega))))
            go_wp2_with fail
            go_meet
            case rel => exact ⟨by rw [hqb'.out, decide_eq_false hf]; rfl, _, rfl⟩
        case rest =>
          obtain ⟨rfl, nd, rfl⟩ := hcut
          have hr2 := hr'.out.drewN nd
          have hd2 := hd'.out.drewN nd
          have hs2 := hs'.out.drewN nd
          have ho2 := ho'.out.drewN nd
          clear hr' hd' hs' ho' c0 c1
          generalize wo.drewN nd = wd at *
          have c0 : wd.cell? ⟨rb, 0, none⟩ = some (.string p) := (hr2.cell 0).trans rfl
          have c1 : wd.cell? ⟨rb, 1, none⟩ = some (.int .i64 k) := (hr2.cell 1).trans rfl
          have hr' := Lib.hid hr2; clear hr2
          have hd' := Lib.hid hd2; clear hd2
          have hs' := Lib.hid hs2; clear hs2
          have ho' := Lib.hid ho2; clear ho2
          by_cases hgo : (decide (k = k0) || !headB ((bs p).drop k) 93) = true
          · rw [hgo]
            have hgo' := Lib.hid hgo; clear hgo
            go_upto_region 7 with fail
            go_cut [64] (fun b wx => ∃ (f : Bool) (k2 : Nat) (s2 : Nat → Bool), b = .bool f ∧ at_ ≤ k2 ∧ k2 ≤ p.size ∧ Blk wx rb 110 #[.string p, .int .i64 k2] ∧ Blk wx w.heap.size 114 (setArr G.none') ∧ Blk wx (w.heap.size + 1) 114 (setArr s2) ∧ Only (fun k => k = rb) w wx ∧ (f = true → SetDone (bs p) at_ G.none' false k2) ∧ (f = false → k < k2 ∧ SetAt (bs p) at_ neg false s2 k2))
            case first =>
              by_cases h93 : headB ((bs p).drop k) 93 = true
              · have hT := fun W => hasHead_is (p.extract k p.size) 93 true W hq2 (by rw [hqb'.out]; exact h93)
                have hT' := Lib.hid hT; clear hT
                go_quiet ((go_at_call 84; exact quiet_left (hT'.out _)))
                go_wp2_with fail
                go_meet
                case rel =>
                  have hfirst : decide (k = k0) = true := by
                    have := hgo'.out
                    rw [h93] at this
                    simpa using this
                  have hst2 := hst'.out
                  rw [hfirst] at hst2
                  exact ⟨true, k, s, rfl, by omega, by omega, hr'.out.drewN _, hd'.out.drewN _, hs'.out.drewN _, ho'.out.drewN _, fun _ => hst2.empty h93, fun e => by cases e⟩
              · have h93' : headB ((bs p).drop k) 93 = false := by simpa using h93
                have hT := fun W => hasHead_is (p.extract k p.size) 93 false W hq2 (by rw [hqb'.out]; exact h93')
                have hT' := Lib.hid hT; clear hT
                rcases Nat.eq_or_lt_of_le hk' with hke | hkl
                · have hke' := Lib.hid hke; clear hke
                  go_region_with (first | (go_at_call 84; refine (hT'.out _).mono ?_; rintro e w' ⟨rfl, rfl⟩) | (go_at_call 100; refine (member_none p k s rb (w.heap.size + 1) _ (by first | exact hr'.out | exact hr'.out.drew) (by first | exact hs'.out | exact hs'.out.drew) hke'.out).mono ?_; rintro e w' ⟨rfl, nn, rfl⟩))
                  all_goals go_wp2_with fail
                  all_goals go_meet
                  all_goals exact ⟨true, k, s, rfl, by omega, by omega, hr'.out.drewN _, hd'.out.drewN _, hs'.out.drewN _, ho'.out.drewN _, fun _ => hst'.out.out (by rw [length_bs, hke'.out]; exact Nat.le_refl _), fun e => by cases e⟩
                · have hb126 : ∀ x, x ∈ bs p → x ≤ 126 := fun x hx => by
                    have := hall'.out x hx
                    simp only [G.pr, Bool.and_eq_true, decide_eq_true_eq] at this
                    exact this.2
                  have hb' := Lib.hid hb126; clear hb126
                  go_region_with (first | (go_at_call 84; refine (hT'.out _).mono ?_; rintro e w' ⟨rfl, rfl⟩) | (go_at_call 100; refine (member_some p k s rb (w.heap.size + 1) _ (by first | exact hr'.out | exact hr'.out.drew) (by first | exact hs'.out | exact hs'.out.drew) hkl (by omega) hb'.out).mono ?_; rintro e w' ⟨c, d, n, hm, hn, rfl, hrn, hsn, hon⟩))
                  all_goals go_wp2_with fail
                  all_goals go_meet
                  all_goals
                    refine ⟨!decide (c ≤ d), k + n, G.rng s c d, by simp, by omega, by omega, hrn, (hd'.out.drew).only hon (by simp; omega), hsn, (ho'.out.drew).step hon (fun i hi => ?_), fun e => ?_, fun e => ?_⟩
                    · rcases hi with rfl | rfl
                      · exact .inl rfl
                      · exact .inr (by omega)
                    · exact hst'.out.fall hm h93' (by simpa using e)
                    · have hn0 : 0 < n := G.mem_pos hm
                      exact ⟨by omega, hst'.out.member hm h93' (by simpa using e) hall'.out⟩
            case rest =>
              obtain ⟨f, k2, s2, rfl, hk2, hk2', hr1, hd1, hs1, ho1, hyes, hno⟩ := hcut
              clear hr' hd' hs' ho' c0 c1
              have hr' := Lib.hid hr1; clear hr1
              have hd' := Lib.hid hd1; clear hd1
              have hs' := Lib.hid hs1; clear hs1
              have ho' := Lib.hid ho1; clear ho1
              have hyes' := Lib.hid hyes; clear hyes
              have hno' := Lib.hid hno; clear hno
              obtain ⟨we, rfl⟩ : ∃ x : World, x = wc := ⟨_, rfl⟩
              cases f with
              | true =>
                have hy := hyes'.out rfl
                have hy' := Lib.hid hy; clear hy hyes' hno'
                go_wp2_with (first
                  | (refine wpList_build_to rfl 114 #[] rfl (setArr G.none') built_set ?_)
                  | (refine wpList_store_row rfl 114 (.tmp 2) (.tmp 65) rfl w.heap.size (setArr G.none') rfl rfl 114 (setArr G.none') hd'.out (sizeSet' G.none') (Eq.refl (setArr G.none').size) (one_setArr G.none') ?_))
                refine bodyPost_ret (results_row_tmp rfl _ _ w.heap.size 114 _ _ rfl (hd'.out.row _) Tryz.underlying114 rfl (sizeSet' _)) rfl ?_
                exact ⟨G.none', false, k2, rfl, hk2, hk2', hy'.out, hr'.out.rowOther (by omega) _, ho'.out.setRow (.inr (Nat.le_refl _)) _⟩
              | false =>
                obtain ⟨hkk, hst2⟩ := hno'.out rfl
                have hst3 := Lib.hid hst2; clear hst2 hyes' hno'
                go_wp2_with fail
                go_roundw
                case rel => exact ⟨k2, s2, by omega, hk2', by rw [decide_eq_false (by omega)]; exact hst3.out, hr'.out, hd'.out, hs'.out, ho'.out⟩
                case measure =>
                  rw [placeOf_blk hr'.out, hpl'.out]
                  omega
          · have hgo1 : (decide (k = k0) || !headB ((bs p).drop k) 93) = false := by simpa using hgo
            have h93 : headB ((bs p).drop k) 93 = true := by
              simp only [Bool.or_eq_false_iff, Bool.not_eq_false'] at hgo1
              exact hgo1.2
            have hf : decide (k = k0) = false := by
              simp only [Bool.or_eq_false_iff] at hgo1
              exact hgo1.1
            rw [hgo1]
            have hst2 := hst'.out
            rw [hf] at hst2
            have hpr := hst2.2
            have hdone := hst2.close h93
            have hpr' := Lib.hid hpr; clear hpr
            have hdone' := Lib.hid hdone; clear hdone
            have hk1 : k < p.size := by
              rcases Nat.lt_or_ge k p.size with h | h
              · exact h
              · rw [List.drop_eq_nil_of_le (by rw [length_bs]; exact h)] at h93; cases h93
            have h93' := Lib.hid h93; clear h93
            clear hst2 hst' hgo hgo1 hf c0
            have f1 := hr'.out.frozen 1
            go_upto_if 73 with fail
            go_cut [] (fun wx => ∃ s2, setArr s2 = setArr (G.fin neg s) ∧ Blk wx rb 110 #[.string p, .int .i64 (k + 1 : Nat)] ∧ Blk wx w.heap.size 114 (setArr G.none') ∧ Blk wx (w.heap.size + 1) 114 (setArr s2) ∧ Only (fun k => k = rb) w wx)
            case first =>
              cases neg with
              | false =>
                go_wp2_with fail
                go_meet
                case rel => exact ⟨s, rfl, hr'.out.store 1 _, hd'.out.other (by simp; omega) _, hs'.out.other (by simp; omega) _, ho'.out.setCell (.inl rfl) _⟩
              | true =>
                have B1 := hr'.out.store 1 (.int .i64 ((k : Int) + 1))
                have B2 := hd'.out.other (p := ⟨rb, 1, none⟩) (by simp; omega) (.int .i64 ((k : Int) + 1))
                have B3 := hs'.out.other (p := ⟨rb, 1, none⟩) (by simp; omega) (.int .i64 ((k : Int) + 1))
                have B4 := ho'.out.setCell (p := ⟨rb, 1, none⟩) (.inl rfl) (.int .i64 ((k : Int) + 1))
                have B1' := Lib.hid B1; clear B1
                have B2' := Lib.hid B2; clear B2
                have B3' := Lib.hid B3; clear B3
                have B4' := Lib.hid B4; clear B4
                go_wp2_with (first
                  | (go_at_call 89; refine (every_any _).mono ?_; rintro e w' ⟨rfl, hbe⟩)
                  | (refine wpList_store_row rfl 114 (.tmp 8) (.tmp 74) rfl w'.heap.size (setArr G.pr) rfl rfl 114 (setArr G.none') (by rw [← zero_set]; exact heap_alloc_new w' _) (sizeSet' G.pr) (by rw [size_setArr, size_setArr]) (one_setArr G.pr) ?_))
                have hz2 := hbe.size
                simp only [World.size_setCell] at hz2
                have hz3 := B3'.out.lt
                simp only [World.size_setCell] at hz3
                have D1 := ((B1'.out.below hbe B1'.out.lt).alloc (.cells Tryz.zeroCells114 114)).rowOther (g' := w'.heap.size) (by omega) (setArr G.pr)
                have D2 := ((B2'.out.below hbe B2'.out.lt).alloc (.cells Tryz.zeroCells114 114)).rowOther (g' := w'.heap.size) (by omega) (setArr G.pr)
                have D3 := ((B3'.out.below hbe B3'.out.lt).alloc (.cells Tryz.zeroCells114 114)).rowOther (g' := w'.heap.size) (by omega) (setArr G.pr)
                have D4 := ((B4'.out.step (Only.of_below (S := fun _ => False) hbe fun k h1 h2 => by omega) fun i hi => hi.elim).alloc (.cells Tryz.zeroCells114 114)).setRow (g := w'.heap.size) (.inr (by have := ho'.out.size; omega)) (setArr G.pr)
                have D5 := (Blk.new w' 114 Tryz.zeroCells114).row (setArr G.pr)
                have D1' := Lib.hid D1; clear D1
                have D2' := Lib.hid D2; clear D2
                have D3' := Lib.hid D3; clear D3
                have D4' := Lib.hid D4; clear D4
                have D5' := Lib.hid D5; clear D5
                clear B1' B2' B3' B4' hbe hr' hd' hs' ho' c1 f1
                go_frame
                go_loopw [7, 8] (fun b t8 wr => ∃ k2 g : Nat, 32 ≤ k2 ∧ k2 ≤ 127 ∧ b = .int .i64 k2 ∧ t8 = .pointer (some ⟨g, 0, none⟩) ∧ w.heap.size + 1 < g ∧ Blk wr g 114 (setArr G.pr) ∧ Blk wr rb 110 #[.string p, .int .i64 (k + 1 : Nat)] ∧ Blk wr w.heap.size 114 (setArr G.none') ∧ Blk wr (w.heap.size + 1) 114 (setArr (turnTo s k2)) ∧ Only (fun k => k = rb) w wr) (fun b _ _ => 127 - (intOf b).toNat)
                case atStart => exact ⟨32, w'.heap.size, by omega, by omega, rfl, rfl, by omega, D5'.out, D1'.out, D2'.out, by rw [turnTo_start]; exact D3'.out, D4'.out⟩
                case round =>
                  clear D1' D2' D3' D4' D5'
                  obtain ⟨k2, g, hk2, hk2', rfl, rfl, hg, hg1, hr1, hd1, hs1, ho1⟩ := hrel
                  have hzw := ho1.size
                  have hglt := hg1.lt
                  have hrb : rb < w.heap.size := hlt
                  by_cases hk3 : k2 < 127
                  · have hp2 : G.pr k2 = true := by simp [G.pr]; omega
                    have c2 : wr.cell? ⟨g, k2, none⟩ = some (.bool true) := by rw [← hp2]; exact (hg1.cell k2).trans (setArr_get _ _ hk3)
                    obtain ⟨v, hv⟩ : ∃ v : Bool, v = turnTo s k2 k2 := ⟨_, rfl⟩
                    have c3 : wr.cell? ⟨w.heap.size + 1, k2, none⟩ = some (.bool v) := by rw [hv]; exact (hs1.cell k2).trans (setArr_get _ _ hk3)
                    have f3 := hs1.frozen k2
                    have E1 := hg1.other (p := ⟨w.heap.size + 1, k2, none⟩) (by simp; omega) (.bool !v)
                    have E2 := hr1.other (p := ⟨w.heap.size + 1, k2, none⟩) (by simp; omega) (.bool !v)
                    have E3 := hd1.other (p := ⟨w.heap.size + 1, k2, none⟩) (by simp) (.bool !v)
                    have E4 := hs1.store k2 (.bool !v)
                    have E5 := ho1.setCell (p := ⟨w.heap.size + 1, k2, none⟩) (.inr (by simp)) (.bool !v)
                    rw [hv, setArr_upd, turnTo_upd s k2 hk2, ← hv] at E4
                    have hv' := Lib.hid hv; clear hv hp2 hg1 hr1 hd1 hs1 ho1
                    have E1' := Lib.hid E1; clear E1
                    have E2' := Lib.hid E2; clear E2
                    have E3' := Lib.hid E3; clear E3
                    have E4' := Lib.hid E4; clear E4
                    have E5' := Lib.hid E5; clear E5
                    go_wp2_with (first
                      | (refine wpList_load_row rfl 114 (.tmp 8) rfl g rfl 114 (setArr G.pr) (0, 0) _ E1'.out Tryz.underlying114 rfl (sizeSet' G.pr) ?_)
                      | (refine wpList_store_row rfl 114 (.tmp 8) (.tmp 90) rfl wr.heap.size (setArr G.pr) rfl rfl 114 (setArr G.none') (by rw [← zero_set]; exact Blk.new_ _ _ _ (by simp)) (sizeSet' G.pr) (by rw [size_setArr, size_setArr]) (one_setArr G.pr) ?_))
                    go_roundw
                    case rel =>
                      refine ⟨k2 + 1, wr.heap.size, by omega, by omega, by go_num, rfl, by omega, (Blk.new_ _ _ _ (by simp)).row _, (E2'.out.alloc _).rowOther (by omega) _, (E3'.out.alloc _).rowOther (by omega) _, (E4'.out.alloc _).rowOther (by omega) _, (E5'.out.alloc _).setRow (.inr (by omega)) _⟩
                    case measure => simp [intOf]; omega
                  · obtain rfl : k2 = 127 := by omega
                    have hg' := Lib.hid hg1; clear hg1
                    have hr' := Lib.hid hr1; clear hr1
                    have hd' := Lib.hid hd1; clear hd1
                    have hs' := Lib.hid hs1; clear hs1
                    have ho' := Lib.hid ho1; clear ho1
                    go_wp2_with fail
                    go_meet
                    case rel => exact ⟨turnTo s 127, turnTo_end hpr'.out, hr'.out, hd'.out, hs'.out, ho'.out⟩
            case rest =>
              obtain ⟨s2, he, hr1, hd1, hs1, ho1⟩ := hcut
              clear hr' hd' hs' ho' c1 f1
              have hr' := Lib.hid hr1; clear hr1
              have hd' := Lib.hid hd1; clear hd1
              rw [he] at hs1
              have hs' := Lib.hid hs1; clear hs1
              have ho' := Lib.hid ho1; clear ho1
              clear he
              obtain ⟨we, rfl⟩ : ∃ x : World, x = wc := ⟨_, rfl⟩
              go_wp2_with (first
                | (refine wpList_load_row rfl 114 (.tmp 4) rfl (w.heap.size + 1) rfl 114 _ (0, 0) _ hs'.out Tryz.underlying114 rfl (sizeSet' _) ?_)
                | (refine wpList_store_row rfl 114 (.tmp 2) (.tmp 91) rfl w.heap.size _ rfl rfl 114 _ hd'.out (sizeSet' _) (by rw [size_setArr, size_setArr]) (one_setArr _) ?_))
              refine bodyPost_ret (results_row_tmp rfl _ _ w.heap.size 114 _ _ rfl (hd'.out.row _) Tryz.underlying114 rfl (sizeSet' _)) rfl ?_
              exact ⟨G.fin neg s, true, k + 1, rfl, by omega, by omega, hdone'.out, hr'.out.rowOther (by omega) _, ho'.out.setRow (.inr (Nat.le_refl _)) _⟩

end Go.Proofs.YtinjeijjfkkhbaaGreatDoor
