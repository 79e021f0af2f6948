/-
  THE WALK of coldplugref02.byteOK and Printable.
  The reference's sets and elements as memory cells.
  THE WALK of coldplugref02.set.
-/
import Derived.Test.YtinjeijjfkkhbaaGreatDoorGlobSet
import Derived.Test.YtinjeijjfkkhbaaGreatDoorGlobMem
namespace Go.Proofs.YtinjeijjfkkhbaaGreatDoor
open Go.RowKit

theorem byteOK_any (c : Nat) (hc : c < 256) (w : World) : Calls Tryz.prog 97 #[.int .u8 c] w fun e w' => e = .returned (.bool (G.pr c)) ∧ w = w' := by
  have h1 : G.pr c = (decide (32 ≤ c) && decide (c ≤ 126)) := rfl
  rw [h1]
  go_enter Tryz.func97, Tryz.ntmps97
  go_wp2
  · have h : (32 : Int) ≤ (c : Int) := by assumption
    go_ret
    refine ⟨?_, rfl⟩
    rw [decide_eq_true (p := 32 ≤ c) (by omega), Bool.true_and]
    simp
    omega
  · have h : (c : Int) < 32 := by assumption
    go_ret
    refine ⟨?_, rfl⟩
    rw [decide_eq_false (p := 32 ≤ c) (by omega), Bool.false_and]
    rfl

set_option maxHeartbeats 400000 in
theorem printable_any (s : ByteArray) (w : World) (hs : s.size ≤ 9223372036854775807) :
    Calls Tryz.prog 86 #[.string s] w fun e w' => e = .returned (.bool ((bs s).all G.pr)) ∧ w = w' := by
  go_enter Tryz.func86, Tryz.ntmps86
  go_wp2_with fail
  go_loop [3] (fun i => ∃ k : Nat, k ≤ s.size ∧ i = .int .i64 k ∧ Hid (((bs s).take k).all G.pr = true)) (fun i => s.size - (intOf i).toNat)
  case atStart => exact ⟨0, by omega, rfl, by simp [Hid]⟩
  case round =>
    obtain ⟨k, hk, rfl, ha⟩ := hrel
    by_cases hlt : k < s.size
    · obtain ⟨b, hb⟩ : ∃ b, G.pr (s[k]'hlt).toNat = b := ⟨_, rfl⟩
      have hP : Calls Tryz.prog 97 #[.int .u8 (s[k]'hlt).toNat] w fun e w' => e = .returned (.bool b) ∧ w = w' := by
        rw [← hb]
        exact byteOK_any _ (UInt8.toNat_lt _) w
      have hP' := Lib.hid hP; clear hP
      have hb' := Lib.hid hb; clear hb
      go_wp2_with (go_at_call 97; refine hP'.out.mono ?_; rintro e w' ⟨rfl, rfl⟩; cases b)
      · go_ret
        refine ⟨?_, rfl⟩
        have hno : (bs s).all G.pr = false := by
          rw [List.all_eq_false]
          exact ⟨_, List.mem_of_getElem? (get_bs s k hlt), by rw [hb'.out]; simp⟩
        rw [hno]
        rfl
      · refine ⟨⟨k + 1, by omega, by go_num, ?_⟩, ?_⟩
        · show _ = _
          rw [List.take_add_one, get_bs s k hlt, List.all_append, ha.out]
          simp [hb'.out]
        · simp [intOf]
          omega
    · have hall : (bs s).all G.pr = true := by
        have := ha.out
        rwa [List.take_of_length_le (by rw [length_bs]; omega)] at this
      have hall' := Lib.hid hall; clear hall
      go_wp2
      go_ret
      exact ⟨by rw [hall'.out]; rfl, rfl⟩

end Go.Proofs.YtinjeijjfkkhbaaGreatDoor

namespace Go.Proofs.YtinjeijjfkkhbaaGreatDoor
open Go.RowKit

def setR (s : Nat → Bool) : Array Value := Array.ofFn (n := 128) fun i => .bool (s i.val)
theorem setR_get (s : Nat → Bool) (k : Nat) (h : k < 128) : (setR s)[k]? = some (.bool (s k)) := by
  simp [setR, h]
theorem size_setR (s : Nat → Bool) : (setR s).size = 128 := by simp [setR]
theorem one_setR (s : Nat → Bool) : (setR s).all (·.oneCell') = true := by
  rw [Array.all_eq_true_iff_forall_mem]
  intro v hv
  simp only [setR, Array.mem_ofFn] at hv
  obtain ⟨i, rfl⟩ := hv
  rfl
theorem setR_upd (s : Nat → Bool) (k : Nat) (b : Bool) : (setR s).setIfInBounds k (.bool b) = setR (upd s k b) := by
  unfold setR
  apply Array.ext
  · simp
  · intro i h1 h2
    rw [Array.getElem_setIfInBounds (by simpa using h1)]
    simp only [Array.getElem_ofFn, upd]
    by_cases h : k = i
    · simp [h]
    · rw [if_neg h, if_neg (fun e => h e.symm)]
theorem setR_congr {s s' : Nat → Bool} (h : ∀ i, i < 128 → s i = s' i) : setR s = setR s' := by
  unfold setR
  apply Array.ext
  · simp
  · intro i h1 h2
    simp only [Array.getElem_ofFn]
    rw [h i (by simpa using h1)]
theorem zero_setR : Tryz.zeroCells132 = setR G.none' := by kernel_rfl

/-- An element's cells: star, literal, set. -/
def elR (star lit : Bool) (s : Nat → Bool) : Array Value := #[.bool star, .bool lit] ++ setR s
theorem size_elR (star lit : Bool) (s : Nat → Bool) : (elR star lit s).size = 130 := by simp [elR, size_setR]
theorem zero_elR : Tryz.zeroCells134 = elR false false G.none' := by kernel_rfl
theorem elR_star (star lit : Bool) (s : Nat → Bool) : (elR star lit s)[0]? = some (.bool star) := by simp [elR, Array.getElem?_append]
theorem elR_lit (star lit : Bool) (s : Nat → Bool) : (elR star lit s)[1]? = some (.bool lit) := by simp [elR, Array.getElem?_append]
theorem elR_set (star lit : Bool) (s : Nat → Bool) (k : Nat) (h : k < 128) : (elR star lit s)[2 + k]? = some (.bool (s k)) := by
  unfold elR
  rw [Array.getElem?_append_right (by simp)]
  simp [setR_get _ _ h]
theorem one_elR (star lit : Bool) (s : Nat → Bool) : (elR star lit s).all (·.oneCell') = true := by
  simp only [elR, Array.all_append, one_setR, Bool.and_true]
  simp [Value.oneCell']
theorem elR_upd (star lit : Bool) (s : Nat → Bool) (k : Nat) (v : Bool) : (elR star lit s).setIfInBounds (2 + k) (.bool v) = elR star lit (upd s k v) := by
  have hx : (elR star lit (upd s k v)) = #[.bool star, .bool lit] ++ (setR s).setIfInBounds k (.bool v) := by rw [setR_upd]; rfl
  rw [hx]
  unfold elR
  apply Array.ext_getElem?
  intro i
  rw [Array.getElem?_setIfInBounds, Array.getElem?_append, Array.getElem?_append]
  have hz : (#[Value.bool star, Value.bool lit] : Array Value).size = 2 := rfl
  rw [hz, Array.size_append, hz, size_setR]
  by_cases h : 2 + k = i
  · subst h
    have a1 : ¬ 2 + k < 2 := by omega
    have a2 : (2 + k < 2 + 128) = (k < 128) := by
      rw [eq_iff_iff]; omega
    simp only [if_true, a1, if_false, Nat.add_sub_cancel_left, Array.getElem?_setIfInBounds, size_setR, a2]
  · rw [if_neg h]
    by_cases h2 : i < 2
    · rw [if_pos h2, if_pos h2]
    · rw [if_neg h2, if_neg h2, Array.getElem?_setIfInBounds, if_neg (by omega)]
theorem elR_setStar (star lit v : Bool) (s : Nat → Bool) : (elR star lit s).setIfInBounds 0 (.bool v) = elR v lit s := by
  unfold elR
  apply Array.ext_getElem?
  intro i
  rw [Array.getElem?_setIfInBounds, Array.getElem?_append, Array.getElem?_append]
  match i with
  | 0 => simp
  | 1 => simp
  | i + 2 => simp
theorem elR_setLit (star lit v : Bool) (s : Nat → Bool) : (elR star lit s).setIfInBounds 1 (.bool v) = elR star v s := by
  unfold elR
  apply Array.ext_getElem?
  intro i
  rw [Array.getElem?_setIfInBounds, Array.getElem?_append, Array.getElem?_append]
  match i with
  | 0 => simp
  | 1 => simp; omega
  | i + 2 => simp

end Go.Proofs.YtinjeijjfkkhbaaGreatDoor

namespace Go.Proofs.YtinjeijjfkkhbaaGreatDoor
open Go.RowKit

/-- What 'set' of the reference answers, and what it leaves. -/
def RSetPost (p : ByteArray) (a eb : Nat) (w : World) (e : Ending) (w' : World) : Prop :=
  ∃ (ok : Bool) (a2 : Nat), e = .returned (.tuple #[.int .i64 a2, .bool ok]) ∧ Only (fun k => k = eb) w w' ∧ (ok = false → ∀ acc, opened acc ((bs p).drop a) = none) ∧
    (ok = true → ∃ s, a ≤ a2 ∧ a2 < p.size ∧ SetDone (bs p) a s true (a2 + 1) ∧ Blk w' eb 134 (elR false false s))

/-- The third loop of 'set': the bytes from 32 up to (not with) k are laid. -/
def layTo (neg : Bool) (s : Nat → Bool) (k : Nat) : Nat → Bool := fun i => if 32 ≤ i ∧ i < k then s i != neg else false
theorem layTo_start (neg : Bool) (s : Nat → Bool) : layTo neg s 32 = G.none' := by
  funext i
  simp only [layTo, G.none']
  rw [if_neg (by omega)]
theorem layTo_upd (neg : Bool) (s : Nat → Bool) (k : Nat) (h : 32 ≤ k) : upd (layTo neg s k) k (s k != neg) = layTo neg s (k + 1) := by
  funext i
  simp only [upd, layTo]
  by_cases e : i = k
  · subst e
    rw [if_pos rfl, if_pos (by omega)]
  · rw [if_neg e]
    by_cases h2 : 32 ≤ i ∧ i < k
    · rw [if_pos h2, if_pos (by omega)]
    · rw [if_neg h2, if_neg (by omega)]
theorem layTo_end {neg : Bool} {s : Nat → Bool} (h : ∀ i, s i = true → G.pr i = true) : layTo neg s 127 = G.fin neg s := by
  funext i
  simp only [layTo]
  by_cases h2 : 32 ≤ i ∧ i < 127
  · rw [if_pos h2]
    have hp : G.pr i = true := by simp [G.pr]; omega
    cases neg <;> simp [G.fin, hp]
  · rw [if_neg h2]
    have hp : G.pr i = false := by simp [G.pr]; omega
    cases neg
    · simp only [G.fin]
      cases hs : s i with
      | false => simp [hs]
      | true => rw [h i hs] at hp; cases hp
    · simp [G.fin, hp]

theorem headB_at {p : ByteArray} {k c : Nat} (h : k < p.size) : headB ((bs p).drop k) c = decide ((p[k]'h).toNat = c) := by
  have h1 : k < (bs p).length := by rw [length_bs]; exact h
  have h2 : (bs p)[k] = (p[k]'h).toNat := by
    have := get_bs p k h
    rw [List.getElem?_eq_getElem h1] at this
    exact Option.some.inj this
  rw [List.drop_eq_getElem_cons h1, h2]
  simp only [headB]
  rw [Bool.eq_iff_iff]
  simp
theorem beq_byte (x c : Nat) : ((x : Int) == (c : Int)) = decide (x = c) := by
  rw [Bool.eq_iff_iff]
  simp
  omega
theorem headB_out {p : ByteArray} {k c : Nat} (h : p.size ≤ k) : headB ((bs p).drop k) c = false := by
  rw [List.drop_eq_nil_of_le (by rw [length_bs]; exact h)]
  rfl

theorem drop_bs {p : ByteArray} {k : Nat} (h : k < p.size) : (bs p).drop k = (p[k]'h).toNat :: (bs p).drop (k + 1) := by
  have h1 : k < (bs p).length := by rw [length_bs]; exact h
  have h2 : (bs p)[k] = (p[k]'h).toNat := by
    have := get_bs p k h
    rw [List.getElem?_eq_getElem h1] at this
    exact Option.some.inj this
  rw [List.drop_eq_getElem_cons h1, h2]
theorem rmem_range {p : ByteArray} {k : Nat} (h : k + 2 < p.size) (h1 : (p[k + 1]'(by omega)).toNat = 45) (h2 : (p[k + 2]'h).toNat ≠ 93) :
    G.mem ((bs p).drop k) = some ((p[k]'(by omega)).toNat, (p[k + 2]'h).toNat, 3) := by
  rw [drop_bs (k := k) (by omega), drop_bs (k := k + 1) (by omega), drop_bs (k := k + 1 + 1) h, G.mem, if_pos ⟨h1, h2⟩]
theorem rmem_one {p : ByteArray} {k : Nat} (h : k < p.size) (hn : ∀ h2 : k + 2 < p.size, (p[k + 1]'(by omega)).toNat = 45 → (p[k + 2]'h2).toNat = 93) :
    G.mem ((bs p).drop k) = some ((p[k]'h).toNat, (p[k]'h).toNat, 1) := by
  rw [drop_bs h]
  by_cases h1 : k + 1 < p.size
  · rw [drop_bs h1]
    by_cases h2 : k + 2 < p.size
    · rw [drop_bs (k := k + 1 + 1) h2, G.mem, if_neg (fun ⟨e1, e2⟩ => e2 (hn h2 e1))]
    · rw [List.drop_eq_nil_of_le (by rw [length_bs]; omega)]
      rfl
  · rw [List.drop_eq_nil_of_le (by rw [length_bs]; omega)]
    rfl
theorem rng_one (s : Nat → Bool) (c : Nat) : G.rng s c c = upd s c true := by
  funext i
  simp only [G.rng, upd]
  by_cases h : i = c
  · subst h; simp
  · rw [if_neg h]
    have : (decide (c ≤ i) && decide (i ≤ c)) = false := by simp <;> omega
    rw [this, Bool.or_false]
/-- The bytes from c up to (not with) k are in the set, too. -/
def inTo (s : Nat → Bool) (c k : Nat) : Nat → Bool := fun i => s i || (decide (c ≤ i) && decide (i < k))
theorem inTo_start (s : Nat → Bool) (c : Nat) : inTo s c c = s := by
  funext i
  simp only [inTo]
  have : (decide (c ≤ i) && decide (i < c)) = false := by simp <;> omega
  rw [this, Bool.or_false]
theorem inTo_upd (s : Nat → Bool) (c k : Nat) (h : c ≤ k) : upd (inTo s c k) k true = inTo s c (k + 1) := by
  funext i
  simp only [inTo, upd]
  by_cases e : i = k
  · subst e
    have : (decide (c ≤ i) && decide (i < i + 1)) = true := by simp <;> omega
    rw [if_pos rfl, this, Bool.or_true]
  · rw [if_neg e]
    have : decide (i < k) = decide (i < k + 1) := by rw [Bool.eq_iff_iff]; simp <;> omega
    rw [this]
theorem inTo_end (s : Nat → Bool) (c d : Nat) : inTo s c (d + 1) = G.rng s c d := by
  funext i
  simp only [inTo, G.rng]
  have : decide (i < d + 1) = decide (i ≤ d) := by rw [Bool.eq_iff_iff]; simp <;> omega
  rw [this]

set_option maxRecDepth 100000 in
set_option maxHeartbeats 2000000 in
theorem rset_any (p : ByteArray) (a : Nat) (eb : Nat) (w : World) (hr : Blk w eb 134 (elR false false G.none')) (h0 : a ≤ p.size) (hp : p.size ≤ 1000000000000) (hall : ∀ x, x ∈ bs p → G.pr x = true) :
    Calls Tryz.prog 98 #[.string p, .int .i64 a, .pointer (some ⟨eb, 0, none⟩)] w (RSetPost p a eb w) := by
  have hlt := hr.lt
  have hr' := Lib.hid hr; clear hr
  have hall' := Lib.hid hall; clear hall
  go_enter Tryz.func98, Tryz.ntmps98
  go_upto_region 1 with fail
  go_cut [8] (fun b wx => b = .bool (headB ((bs p).drop a) 33) ∧ wx = w)
  case first =>
    by_cases ha : a < p.size
    · have hh := headB_at (p := p) (c := 33) ha
      have hh' := Lib.hid hh; clear hh
      go_wp2_with fail
      all_goals go_meet
      all_goals exact ⟨by rw [hh'.out]; exact congrArg Value.bool (beq_byte _ 33), rfl⟩
    · have hh := headB_out (p := p) (c := 33) (k := a) (by omega)
      have hh' := Lib.hid hh; clear hh
      go_wp2_with fail
      go_meet
      exact ⟨by rw [hh'.out], rfl⟩
  case rest =>
    obtain ⟨rfl, rfl⟩ := hcut
    generalize hneg : headB ((bs p).drop a) 33 = neg at *
    have hneg' := Lib.hid hneg; clear hneg
    go_upto_if 23 with fail
    go_cut [1] (fun i wx => (∃ k0 : Nat, i = .int .i64 k0 ∧ a ≤ k0 ∧ k0 ≤ p.size ∧ SetAt (bs p) a neg true G.none' k0) ∧ wx = wc)
    case first =>
      cases neg with
      | true =>
        go_wp2_with fail
        go_meet
        case rel =>
          have hl : a < p.size := by
            rcases Nat.lt_or_ge a p.size with h | h
            · exact h
            · have := hneg'.out
              rw [headB_out h] at this; cases this
          exact ⟨⟨a + 1, by go_num, by omega, by omega, SetAt.startNot hneg'.out⟩, rfl⟩
      | false =>
        go_wp2_with fail
        go_meet
        case rel => exact ⟨⟨a, rfl, by omega, by omega, SetAt.start hneg'.out⟩, rfl⟩
    case rest =>
      obtain ⟨⟨k0, rfl, hk0, hk0', hst⟩, rfl⟩ := hcut
      obtain ⟨w0, rfl⟩ : ∃ x : World, x = wc := ⟨_, rfl⟩
      clear hneg'
      have hst' := Lib.hid hst; clear hst
      go_wp2_with fail
      go_loopw [1] (fun i wr => ∃ (k : Nat) (s : Nat → Bool), i = .int .i64 k ∧ k0 ≤ k ∧ k ≤ p.size ∧ SetAt (bs p) a neg (decide (k = k0)) s k ∧ Blk wr w0.heap.size 132 (setR s) ∧ Blk wr eb 134 (elR false false G.none') ∧ Only (fun k => k = eb) w0 wr) (fun i _ => p.size - (intOf i).toNat)
      case atStart => exact ⟨k0, G.none', rfl, by omega, by omega, by rw [decide_eq_true rfl]; exact hst'.out, by rw [← zero_setR]; exact Blk.new _ _ _, hr'.out.alloc _, (Only.refl _ _).alloc _⟩
      case round =>
        clear hst' hr'
        obtain ⟨k, s, rfl, hk, hk', hst, hd1, hr1, ho1⟩ := hrel
        have hz := ho1.size
        have hlt2 := hd1.lt
        have hlt3 := hr1.lt
        have hr' := Lib.hid hr1; clear hr1
        have hd' := Lib.hid hd1; clear hd1
        have ho' := Lib.hid ho1; clear ho1
        have hst' := Lib.hid hst; clear hst
        by_cases hks : k < p.size
        · by_cases h93 : (p[k]'hks).toNat = 93
          · have hh93 : headB ((bs p).drop k) 93 = true := by rw [headB_at hks]; exact decide_eq_true h93
            have hI : ((p[k]'hks).toNat : Int) = 93 := by omega
            have hh93' := Lib.hid hh93; clear hh93
            by_cases hkk : k = k0
            · subst hkk
              have hst2 := hst'.out
              have hb : ((k : Int) == (k : Int)) = true := by simp
              rw [decide_eq_true rfl] at hst2
              have hout := (hst2.empty (s' := s) (k' := 0) hh93'.out).2 rfl
              have hout' := Lib.hid hout; clear hout hst2
              go_wp2_with fail
              go_ret2
              exact ⟨false, 0, rfl, ho'.out, fun _ => hout'.out, fun e => by cases e⟩
            · have hst2 := hst'.out
              rw [decide_eq_false hkk] at hst2
              have hcl := hst2.close hh93'.out
              have hcl' := Lib.hid hcl; clear hcl
              have hprs := hst2.2
              have hprs' := Lib.hid hprs; clear hprs hst2
              go_wp2_with fail
              all_goals try (exfalso; have h : p.size ≤ k ∨ ((k : Int) == (k0 : Int)) = true := by assumption
                             rcases h with h | h
                             · omega
                             · exact hkk (by simpa [Int.ofNat_inj] using h))
              rw [show decide (p.size ≤ k) = false from decide_eq_false (by omega), show ((k : Int) == (k0 : Int)) = false from by rw [beq_eq_false_iff_ne]; omega, show (false || false) = false from rfl]
              go_loopw [12] (fun i wy => ∃ j : Nat, i = .int .i64 j ∧ 32 ≤ j ∧ j ≤ 127 ∧ Blk wy w0.heap.size 132 (setR s) ∧ Blk wy eb 134 (elR false false (layTo neg s j)) ∧ Only (fun k => k = eb) w0 wy) (fun i _ => 127 - (intOf i).toNat)
              case atStart => exact ⟨32, rfl, by omega, by omega, hd'.out, by rw [layTo_start]; exact hr'.out, ho'.out⟩
              case round =>
                clear hr' hd' ho'
                obtain ⟨j, rfl, hj, hj', hd1, hr1, ho1⟩ := hrel
                by_cases hj2 : j < 127
                · have k1 : wr.cell? ⟨w0.heap.size, j, none⟩ = some (.bool (s j)) := (hd1.cell j).trans (setR_get s j (by omega))
                  have k2 : wr.cell? ⟨eb, 2 + j, none⟩ = some (.bool (layTo neg s j j)) := (hr1.cell _).trans (elR_set _ _ _ j (by omega))
                  have f2 := hr1.frozen (2 + j)
                  have hlt2 := hd1.lt
                  have hlt3 := hr1.lt
                  have hr' := Lib.hid hr1; clear hr1
                  have hd' := Lib.hid hd1; clear hd1
                  have ho' := Lib.hid ho1; clear ho1
                  go_wp2_with fail
                  go_region_with (fail)
                  go_wp2_with fail
                  have B1 := hr'.out.store (2 + j) (.bool (!s j == neg))
                  rw [elR_upd, show (!s j == neg) = (s j != neg) from by cases s j <;> cases neg <;> rfl, layTo_upd neg s j hj] at B1
                  have hve : (!s j == neg) = (s j != neg) := by cases s j <;> cases neg <;> rfl
                  go_roundw
                  case rel => exact ⟨j + 1, by go_num, by omega, by omega, (hd'.out.other (p := ⟨eb, 2 + j, none⟩) (by simp; omega) (.bool (!s j == neg))).drew, by rw [hve]; exact B1.drew, (ho'.out.setCell (p := ⟨eb, 2 + j, none⟩) (.inl rfl) (.bool (!s j == neg))).drew⟩
                  case measure => simp [intOf]; omega
                · obtain rfl : j = 127 := by omega
                  rw [layTo_end hprs'.out] at hr1
                  have hr' := Lib.hid hr1; clear hr1
                  have ho' := Lib.hid ho1; clear ho1 hd1
                  go_wp2_with fail
                  go_ret2
                  refine ⟨true, k, rfl, ho'.out, fun e => (by cases e), fun _ => ⟨G.fin neg s, by omega, hks, hcl'.out, hr'.out⟩⟩
          · have hh93 : headB ((bs p).drop k) 93 = false := by rw [headB_at hks]; exact decide_eq_false h93
            have hI : ¬ ((p[k]'hks).toNat : Int) = 93 := by omega
            have hh93' := Lib.hid hh93; clear hh93
            have hc126 : (p[k]'hks).toNat < 127 := by
              have := hall'.out _ (List.mem_of_getElem? (get_bs p k hks))
              simp only [G.pr, Bool.and_eq_true, decide_eq_true_eq] at this
              omega
            go_upto_region 7 with fail
            go_cut [55] (fun b wx => (∃ rg : Bool, b = .bool rg ∧ (rg = true → ∃ h2 : k + 2 < p.size, (p[k + 1]'(by omega)).toNat = 45 ∧ (p[k + 2]'h2).toNat ≠ 93) ∧ (rg = false → ∀ h2 : k + 2 < p.size, (p[k + 1]'(by omega)).toNat = 45 → (p[k + 2]'h2).toNat = 93)) ∧ wx = wr)
            case first =>
              go_wp2_with fail
              · have e1 : ((p[k + 1]'(by omega)).toNat : Int) = 45 := by assumption
                go_meet
                case rel => exact ⟨⟨_, rfl, fun e => ⟨by omega, by omega, fun e2 => by simp [e2] at e⟩, fun e h2 _ => by simp at e; omega⟩, rfl⟩
              · have e1 : ¬ ((p[k + 1]'(by omega)).toNat : Int) = 45 := by assumption
                go_meet
                case rel => exact ⟨⟨false, rfl, (fun e => by cases e), fun _ h2 e => absurd e (by omega)⟩, rfl⟩
              · go_meet
                case rel => exact ⟨⟨false, rfl, (fun e => by cases e), fun _ h2 => absurd h2 (by omega)⟩, rfl⟩
            case rest =>
              obtain ⟨⟨rg, rfl, hy, hn⟩, rfl⟩ := hcut
              obtain ⟨wr, rfl⟩ : ∃ x : World, x = wc := ⟨_, rfl⟩
              cases rg with
              | false =>
                have hm := rmem_one hks (hn rfl)
                have hmb := hst'.out.member hm hh93'.out (Nat.le_refl _) hall'.out
                rw [rng_one] at hmb
                have hmb' := Lib.hid hmb; clear hmb hm hy hn
                have hB := hd'.out.store (p[k]'hks).toNat (.bool true)
                rw [setR_upd] at hB
                have hB' := Lib.hid hB; clear hB
                have f1 := hd'.out.frozen (p[k]'hks).toNat
                have k1 : wr.cell? ⟨w0.heap.size, (p[k]'hks).toNat, none⟩ = some (.bool (s (p[k]'hks).toNat)) := (hd'.out.cell _).trans (setR_get s _ (by omega))
                go_wp2_with fail
                refine ⟨⟨k + 1, upd s (p[k]'hks).toNat true, by go_num, by omega, by omega, ?_, hB'.out, hr'.out.other (by simp; omega) _, ho'.out.setCell (.inr (by simp)) _⟩, ?_⟩
                · rw [decide_eq_false (by omega)]; exact hmb'.out
                · simp [intOf]; omega
              | true =>
                obtain ⟨h2, e45, e93⟩ := hy rfl
                clear hy hn
                have x0 : (0 : Int) ≤ (k : Int) + 2 := by omega
                have x1 : (k : Int) + 2 < (p.size : Int) := by omega
                have x2 : (k : Int) < (p.size : Int) := by omega
                have hm := rmem_range h2 e45 e93
                have hm' := Lib.hid hm; clear hm e45 e93
                have hd126 : (p[k + 2]'h2).toNat < 127 := by
                  have := hall'.out _ (List.mem_of_getElem? (get_bs p (k + 2) h2))
                  simp only [G.pr, Bool.and_eq_true, decide_eq_true_eq] at this
                  omega
                by_cases hcd : (p[k]'hks).toNat ≤ (p[k + 2]'h2).toNat
                · have hmb := hst'.out.member hm'.out hh93'.out hcd hall'.out
                  have hmb' := Lib.hid hmb; clear hmb
                  have ng : ¬ (((p[k + 2]'h2).toNat : Nat) : Int) < ((p[k]'hks).toNat : Nat) := by omega
                  have hA : Blk wr w0.heap.size 132 (setR (inTo s (p[k]'hks).toNat (p[k]'hks).toNat)) := by rw [inTo_start]; exact hd'.out
                  have hA' := Lib.hid hA; clear hA
                  go_wp2_with fail
                  go_quiet (fail)
                  go_wp2_with fail
                  go_loopw [11] (fun i wy => ∃ j : Nat, i = .int .i64 j ∧ (p[k]'hks).toNat ≤ j ∧ j ≤ (p[k + 2]'h2).toNat + 1 ∧ Blk wy w0.heap.size 132 (setR (inTo s (p[k]'hks).toNat j)) ∧ Blk wy eb 134 (elR false false G.none') ∧ Only (fun k => k = eb) w0 wy) (fun i _ => (p[k + 2]'h2).toNat + 1 - (intOf i).toNat)
                  case atStart => exact ⟨(p[k]'hks).toNat, rfl, Nat.le_refl _, by omega, hA'.out.drewN _, hr'.out.drewN _, ho'.out.drewN _⟩
                  case round =>
                    clear hA' hr' hd' ho'
                    obtain ⟨j, rfl, hj, hj', hd1, hr1, ho1⟩ := hrel
                    have hlt2 := hd1.lt
                    have hlt3 := hr1.lt
                    by_cases hj2 : j ≤ (p[k + 2]'h2).toNat
                    · have jj : (j : Int) ≤ ((p[k + 2]'h2).toNat : Int) := by omega
                      have j0 : (0 : Int) ≤ (j : Int) := by omega
                      have j1 : (j : Int) < 128 := by omega
                      have k1 := (hd1.cell j).trans (setR_get _ j (by omega))
                      have f1 := hd1.frozen j
                      have hB := hd1.store j (.bool true)
                      rw [setR_upd, inTo_upd _ _ _ hj] at hB
                      have hr2 := hr1.other (p := ⟨w0.heap.size, j, none⟩) (by simp; omega) (.bool true)
                      have ho2 := ho1.setCell (p := ⟨w0.heap.size, j, none⟩) (.inr (by simp)) (.bool true)
                      have hB' := Lib.hid hB; clear hB hd1
                      have hr' := Lib.hid hr2; clear hr1 hr2
                      have ho' := Lib.hid ho2; clear ho1 ho2
                      go_wp2_with fail
                      go_roundw
                      case rel => exact ⟨j + 1, by go_num, by omega, by omega, hB'.out, hr'.out, ho'.out⟩
                      case measure => simp [intOf]; omega
                    · obtain rfl : j = (p[k + 2]'h2).toNat + 1 := by omega
                      rw [inTo_end] at hd1
                      have hd' := Lib.hid hd1; clear hd1
                      have hr' := Lib.hid hr1; clear hr1
                      have ho' := Lib.hid ho1; clear ho1
                      go_wp2_with fail
                      go_roundw
                      case rel => exact ⟨k + 3, _, by go_num, by omega, by omega, by rw [decide_eq_false (by omega)]; exact hmb'.out, hd'.out, hr'.out, ho'.out⟩
                      case measure => simp [intOf]; omega
                · have hout := (hst'.out.fall (s' := s) (k' := 0) hm'.out hh93'.out hcd).2 rfl
                  have hout' := Lib.hid hout; clear hout
                  have hg : (((p[k + 2]'h2).toNat : Nat) : Int) < ((p[k]'hks).toNat : Nat) := by omega
                  go_wp2_with fail
                  go_quiet (fail)
                  go_wp2_with fail
                  go_ret2
                  exact ⟨false, 0, rfl, ho'.out.drewN _, fun _ => hout'.out, fun e => by cases e⟩
        · have hout := (hst'.out.out (s' := s) (k' := 0) (by rw [length_bs]; omega)).2 rfl
          have hout' := Lib.hid hout; clear hout
          go_wp2_with fail
          go_ret2
          exact ⟨false, 0, rfl, ho'.out, fun _ => hout'.out, fun e => by cases e⟩

end Go.Proofs.YtinjeijjfkkhbaaGreatDoor
