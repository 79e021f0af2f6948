/-
  THE WALKS of lexer.name, lexer.op: the parts of a token.
-/
import Derived.Test.YtofemhaepadggaaDoorLexBase
namespace Go.Proofs.YtofemhaepadggaaDoor
open Go.RowKit

/-- strings.CutPrefix at a prefix of one byte. -/
theorem cutp_yes (s : ByteArray) (c : UInt8) (r : List Nat) (h : bs s = c.toNat :: r) (w : World) :
    Calls Tryd.prog 73 #[.string s, .string ⟨#[c]⟩] w fun e w' => (∃ t : ByteArray, bs t = r ∧ e = .returned (.tuple #[.string t, .bool true])) ∧ w' = w := by
  refine (Tryd.strings_CutPrefix s ⟨#[c]⟩ w).mono ?_
  rintro e w' ⟨rfl, rfl⟩
  have hh : ∃ l, s.data.toList = c :: l ∧ l.map UInt8.toNat = r := by
    rw [bs_data] at h
    cases hd : s.data.toList with
    | nil => rw [hd] at h; cases h
    | cons a l =>
      rw [hd] at h
      simp only [List.map_cons, List.cons.injEq] at h
      exact ⟨l, by rw [UInt8.toNat_inj.1 h.1], h.2⟩
  obtain ⟨l, hl, hr⟩ := hh
  refine ⟨⟨⟨l.toArray⟩, by rw [bs_of]; exact hr, ?_⟩, rfl⟩
  have h1 : Lib.hasPrefix s.data.toList [c] = true := by rw [prefix_one, hl]; simp
  have h2 : Lib.trimPrefix s.data.toList [c] = l := by unfold Lib.trimPrefix; rw [h1, if_pos rfl, hl]; rfl
  show Ending.returned (Value.tuple #[.string ⟨(Lib.trimPrefix s.data.toList [c]).toArray⟩, .bool (Lib.hasPrefix s.data.toList [c])]) = _
  rw [h1, h2]
theorem cutp_no (s : ByteArray) (c : UInt8) (h : (bs s).head? ≠ some c.toNat) (w : World) :
    Calls Tryd.prog 73 #[.string s, .string ⟨#[c]⟩] w fun e w' => e = .returned (.tuple #[.string s, .bool false]) ∧ w' = w := by
  refine (Tryd.strings_CutPrefix s ⟨#[c]⟩ w).mono ?_
  rintro e w' ⟨rfl, rfl⟩
  have h1 : Lib.hasPrefix s.data.toList [c] = false := by
    rw [prefix_one]
    refine decide_eq_false fun e => h ?_
    rw [bs_data]
    cases hd : s.data.toList with
    | nil => rw [hd] at e; cases e
    | cons a l => rw [hd] at e; simp at e; subst e; rfl
  have h2 : Lib.trimPrefix s.data.toList [c] = s.data.toList := by unfold Lib.trimPrefix; rw [h1]; rfl
  refine ⟨?_, rfl⟩
  show Ending.returned (Value.tuple #[.string ⟨(Lib.trimPrefix s.data.toList [c]).toArray⟩, .bool (Lib.hasPrefix s.data.toList [c])]) = _
  rw [h1, h2]
theorem bs_to (p : ByteArray) (b : Nat) : bs (p.extract 0 b) = (bs p).take b := by
  unfold bs
  rw [ByteArray.data_extract, Array.toList_extract, List.map_take]
  simp

/-- A part of a token: what a walk hands back. -/
def PartPost (w : World) (r : L.Res) (e : Ending) (w' : World) : Prop :=
  (∃ a b : ByteArray, e = .returned (.tuple #[.string a, .string b, .int .i64 r.2.2]) ∧ bs a = r.1 ∧ bs b = r.2.1) ∧ Below w.heap.size w w'

set_option maxHeartbeats 1000000 in
theorem name_any (s : ByteArray) (w : World) (hs : s.size ≤ 1000000000) : Calls Tryd.prog 59 #[.string s] w (PartPost w (L.nameS (bs s))) := by
  by_cases hh : (bs s).head? = some 123
  · obtain ⟨r, hr⟩ : ∃ r, bs s = 123 :: r := by
      cases h : bs s with
      | nil => rw [h] at hh; cases hh
      | cons a r => rw [h] at hh; simp at hh; subst hh; exact ⟨r, rfl⟩
    have hC := fun W => cutp_yes s 123 r hr W
    have hspec : L.nameS (bs s) = (if L.cnt L.inName r = r.length then (([], [], 83) : L.Res) else if L.cnt L.inName r = 0 ∨ r[L.cnt L.inName r]? ≠ some 125 then ([], [], 82) else (r.take (L.cnt L.inName r), r.drop (L.cnt L.inName r + 1), 0)) := by rw [hr]; rfl
    have hlen : r.length ≤ 1000000000 := by
      have := length_bs s
      rw [hr] at this
      simp at this
      omega
    rw [hspec]
    have hN := fun (t : ByteArray) W (ht : bs t = r) => count_gen L.inName 51 (.inr rfl) inName_any t W (by have := length_bs t; rw [ht] at this; omega)
    have hcle := L.cnt_le L.inName r
    have hcn := hN
    clear hspec hr hN
    have hC' := Lib.hid hC; clear hC
    have hcn' : Hid (∀ (t : ByteArray) W, bs t = r → Calls Tryd.prog 49 #[.string t, .func (Fn.func 51) #[] #[]] W fun e w' => e = .returned (.int .i64 (L.cnt L.inName r : Nat)) ∧ Below W.heap.size W w') := fun t W ht => by
      have := hcn t W ht
      rwa [ht] at this
    clear hcn
    obtain ⟨n, hn⟩ : ∃ n, L.cnt L.inName r = n := ⟨_, rfl⟩
    rw [hn] at hcle hcn' ⊢
    clear hn
    by_cases h1 : n = r.length
    · rw [if_pos h1]
      go_enter Tryd.func59, Tryd.ntmps59
      go_wp2_with fail
      refine (hC'.out _).mono ?_
      rintro e v1 ⟨⟨t, ht, rfl⟩, rfl⟩
      have hts : t.size = r.length := by rw [← ht, length_bs]
      have i1 : (n : Int) = (t.size : Int) := by omega
      have ht' := Lib.hid ht; clear ht
      go_wp2_with fail
      refine (hcn'.out t _ ht'.out).mono ?_
      rintro e v2 ⟨rfl, hb2⟩
      have hb2' := Lib.hid hb2; clear hb2
      go_wp2_with fail
      go_ret3
      exact ⟨⟨⟨#[]⟩, ⟨#[]⟩, rfl, rfl, rfl⟩, hb2'.out⟩
    · rw [if_neg h1]
      by_cases h2 : n = 0
      · rw [if_pos (.inl h2)]
        go_enter Tryd.func59, Tryd.ntmps59
        go_wp2_with fail
        refine (hC'.out _).mono ?_
        rintro e v1 ⟨⟨t, ht, rfl⟩, rfl⟩
        have hts : t.size = r.length := by rw [← ht, length_bs]
        have i1 : ¬ (n : Int) = (t.size : Int) := by omega
        have i1' : ((n : Int) == (t.size : Int)) = false := beq_eq_false_iff_ne.2 i1
        have i2 : (n : Int) = 0 := by omega
        have ht' := Lib.hid ht; clear ht
        go_wp2_with fail
        refine (hcn'.out t _ ht'.out).mono ?_
        rintro e v2 ⟨rfl, hb2⟩
        have hb2' := Lib.hid hb2; clear hb2
        go_wp2_with fail
        go_ret3
        exact ⟨⟨⟨#[]⟩, ⟨#[]⟩, rfl, rfl, rfl⟩, hb2'.out⟩
      · have hlt : n < r.length := by omega
        obtain ⟨c, hc⟩ : ∃ c, r[n]? = some c := ⟨_, List.getElem?_eq_getElem hlt⟩
        by_cases h3 : c = 125
        · subst h3
          rw [if_neg (by simp [h2, hc])]
          go_enter Tryd.func59, Tryd.ntmps59
          go_wp2_with fail
          refine (hC'.out _).mono ?_
          rintro e v1 ⟨⟨t, ht, rfl⟩, rfl⟩
          have hts : t.size = r.length := by rw [← ht, length_bs]
          have i1' : ((n : Int) == (t.size : Int)) = false := beq_eq_false_iff_ne.2 (by omega)
          have i2' : ((n : Int) == 0) = false := beq_eq_false_iff_ne.2 (by omega)
          have i3 : (n : Int) < (t.size : Int) := by omega
          have i4 : (n : Int) + 1 ≤ (t.size : Int) := by omega
          have hk : n < t.size := by omega
          have hcb : ((t[n]'hk).toNat : Int) = 125 := by
            have := get_bs t n hk
            rw [ht, hc] at this
            have h9 := Option.some.inj this
            omega
          have ht' := Lib.hid ht; clear ht
          go_wp2_with fail
          refine (hcn'.out t _ ht'.out).mono ?_
          rintro e v2 ⟨rfl, hb2⟩
          have hb2' := Lib.hid hb2; clear hb2
          go_wp2_with fail
          go_quiet (fail)
          go_wp2_with fail
          go_ret3
          exact ⟨⟨t.extract 0 n, t.extract (n + 1) r.length, rfl, by rw [bs_to, ht'.out], by rw [← hts, bs_extract, ht'.out]⟩, below_drawN hb2'.out _⟩
        · rw [if_pos (.inr (by rw [hc]; simpa using h3))]
          go_enter Tryd.func59, Tryd.ntmps59
          go_wp2_with fail
          refine (hC'.out _).mono ?_
          rintro e v1 ⟨⟨t, ht, rfl⟩, rfl⟩
          have hts : t.size = r.length := by rw [← ht, length_bs]
          have i1' : ((n : Int) == (t.size : Int)) = false := beq_eq_false_iff_ne.2 (by omega)
          have i2' : ((n : Int) == 0) = false := beq_eq_false_iff_ne.2 (by omega)
          have i3 : (n : Int) < (t.size : Int) := by omega
          have hk : n < t.size := by omega
          have hcb : ¬ ((t[n]'hk).toNat : Int) = 125 := by
            have := get_bs t n hk
            rw [ht, hc] at this
            have h9 := Option.some.inj this
            omega
          have ht' := Lib.hid ht; clear ht
          go_wp2_with fail
          refine (hcn'.out t _ ht'.out).mono ?_
          rintro e v2 ⟨rfl, hb2⟩
          have hb2' := Lib.hid hb2; clear hb2
          go_wp2_with fail
          go_ret3
          exact ⟨⟨⟨#[]⟩, ⟨#[]⟩, rfl, rfl, rfl⟩, hb2'.out⟩
  · have hspec : L.nameS (bs s) = ([], bs s, 0) := by
      cases h : bs s with
      | nil => rfl
      | cons a r =>
        rw [h] at hh
        simp at hh
        unfold L.nameS
        split
        · rename_i e; simp at e; exact absurd e.1 hh
        · rfl
    rw [hspec]
    have hC' := Lib.hid (fun W => cutp_no s 123 hh W)
    clear hspec hh
    go_enter Tryd.func59, Tryd.ntmps59
    go_wp2_with fail
    refine (hC'.out _).mono ?_
    rintro e v1 ⟨rfl, rfl⟩
    go_wp2_with fail
    go_ret3
    exact ⟨⟨⟨#[]⟩, s, rfl, rfl, rfl⟩, Below.refl _ _⟩

def opsB : List ByteArray := [⟨#[61, 61]⟩, ⟨#[33, 61]⟩, ⟨#[43, 61]⟩, ⟨#[45, 61]⟩, ⟨#[58, 61]⟩, ⟨#[61]⟩]
theorem opsB_L : opsB.map bs = L.opsL := by decide
theorem prefix_map : ∀ (a b : List UInt8), a.isPrefixOf b = (a.map UInt8.toNat).isPrefixOf (b.map UInt8.toNat)
  | [], b => by simp [List.isPrefixOf]
  | a :: l, [] => by simp [List.isPrefixOf]
  | a :: l, b :: m => by
    simp only [List.isPrefixOf, List.map_cons, prefix_map l m]
    congr 1
    by_cases h : a = b
    · subst h; simp
    · have : a.toNat ≠ b.toNat := fun e => h (UInt8.toNat_inj.1 e)
      rw [beq_eq_false_iff_ne.2 h, beq_eq_false_iff_ne.2 this]
theorem prefix_bs (s x : ByteArray) : Lib.hasPrefix s.data.toList x.data.toList = (bs x).isPrefixOf (bs s) := by
  unfold Lib.hasPrefix
  rw [prefix_map]; rfl
theorem find_hit {α : Type} {p : α → Bool} : ∀ {l : List α} {k : Nat} {x : α}, l[k]? = some x → (∀ j y, j < k → l[j]? = some y → p y = false) → p x = true → l.find? p = some x
  | [], k, x, h, _, _ => by cases h
  | a :: l, 0, x, h, _, hp => by
    simp at h
    subst h
    simp [hp]
  | a :: l, k + 1, x, h, hb, hp => by
    have h0 := hb 0 a (by omega) rfl
    rw [List.find?_cons, h0]
    exact find_hit (l := l) (k := k) (by simpa using h) (fun j y hj hy => hb (j + 1) y (by omega) (by simpa using hy)) hp
theorem find_miss {α : Type} {p : α → Bool} {l : List α} (h : ∀ j y, j < l.length → l[j]? = some y → p y = false) : l.find? p = none := by
  rw [List.find?_eq_none]
  intro x hx
  obtain ⟨j, hj, he⟩ := List.getElem_of_mem hx
  rw [h j x hj (he ▸ List.getElem?_eq_getElem hj)]
  simp

theorem ops_any (w : World) : Calls Tryd.prog 72 #[] w fun e w' => e = .returned (.slice (some ⟨w.heap.size, 0, none⟩) 6 6) ∧ w' = w.alloc (.cells (opsB.map Value.string).toArray 9) := by
  go_enter Tryd.func72, Tryd.ntmps72
  go_wp2_with fail
  go_ret
  exact ⟨rfl, rfl⟩

theorem drop_bs (s x : ByteArray) (h : Lib.hasPrefix s.data.toList x.data.toList = true) : bs ⟨(Lib.trimPrefix s.data.toList x.data.toList).toArray⟩ = (bs s).drop (bs x).length := by
  unfold Lib.trimPrefix
  rw [h, if_pos rfl, bs_of, List.map_drop, ← bs_data, length_bs, Lib.size_eq]

set_option maxHeartbeats 1000000 in
theorem op_any (s : ByteArray) (w : World) : Calls Tryd.prog 52 #[.string s] w (PartPost w (L.opS (bs s))) := by
  have hP := fun x W => Tryd.strings_CutPrefix s x W
  have hP' := Lib.hid hP; clear hP
  have hO' := Lib.hid (ops_any w)
  go_enter Tryd.func52, Tryd.ntmps52
  go_wp2_with fail
  refine hO'.out.mono ?_
  rintro e v1 ⟨rfl, rfl⟩
  have hB0 : Hid (Blk (w.alloc (.cells (opsB.map Value.string).toArray 9)) w.heap.size 9 (opsB.map Value.string).toArray) := Blk.new _ _ _
  have hb0 : Hid (Below w.heap.size w (w.alloc (.cells (opsB.map Value.string).toArray 9))) := (Below.refl _ _).alloc (Nat.le_refl _) _
  generalize w.alloc (.cells (opsB.map Value.string).toArray 9) = v1 at *
  go_wp2_with fail
  go_loopw [11] (fun s11 wr => ∃ k : Nat, s11 = .int .i64 k ∧ k ≤ 6 ∧ Hid (wr = v1) ∧ Hid (∀ j y, j < k → opsB[j]? = some y → (bs y).isPrefixOf (bs s) = false)) (fun s11 _ => 6 - (intOf s11).toNat)
  case atStart => exact ⟨0, rfl, by omega, (by first | exact rfl | exact trivial), fun j y hj => by omega⟩
  case round =>
    obtain ⟨k, rfl, hk, hw, hno⟩ := hrel
    obtain rfl : wr = v1 := hw.out
    clear hw
    by_cases hk6 : k < 6
    · obtain ⟨x, hx⟩ : ∃ x, opsB[k]? = some x := ⟨_, List.getElem?_eq_getElem (by simpa [opsB] using hk6)⟩
      have c0 : wr.cell? ⟨w.heap.size, k, none⟩ = some (.string x) := (hB0.out.cell k).trans (by simp [hx])
      have hC := hP'.out x wr
      have hx' := Lib.hid hx; clear hx
      have hdr := drop_bs s x
      generalize hh : Lib.hasPrefix s.data.toList x.data.toList = hp at *
      generalize (⟨(Lib.trimPrefix s.data.toList x.data.toList).toArray⟩ : ByteArray) = rest at *
      have hC' := Lib.hid hC; clear hC
      rw [prefix_bs] at hh
      cases hp with
      | false =>
        have hno2 : Hid (∀ j y, j < k + 1 → opsB[j]? = some y → (bs y).isPrefixOf (bs s) = false) := fun j y hj hy => by
          rcases Nat.lt_or_ge j k with h | h
          · exact hno.out j y h hy
          · obtain rfl : j = k := by omega
            rw [hx'.out] at hy
            cases hy
            exact hh
        clear hh hno hdr
        go_wp2_with fail
        refine hC'.out.mono ?_
        rintro e v2 ⟨rfl, rfl⟩
        go_wp2_with fail
        go_roundw
        case rel => exact ⟨k + 1, by go_num, by omega, (by first | exact rfl | exact trivial), hno2⟩
        case measure => simp [intOf]; omega
      | true =>
        have hspec : L.opS (bs s) = (bs x, (bs s).drop (bs x).length, 0) := by
          unfold L.opS
          rw [← opsB_L]
          have : (opsB.map bs).find? (fun y => y.isPrefixOf (bs s)) = some (bs x) := find_hit (k := k) (by rw [List.getElem?_map, hx'.out]; rfl) (fun j y hj hy => by
            rw [List.getElem?_map] at hy
            cases hq : opsB[j]? with
            | none => rw [hq] at hy; cases hy
            | some z =>
              rw [hq] at hy
              simp at hy
              subst hy
              exact hno.out j z hj hq) hh
          rw [this]
        rw [hspec]
        have hdr' := Lib.hid (hdr rfl)
        clear hspec hh hno hdr
        go_wp2_with fail
        refine hC'.out.mono ?_
        rintro e v2 ⟨rfl, rfl⟩
        go_wp2_with fail
        go_ret3
        exact ⟨⟨x, rest, rfl, rfl, hdr'.out⟩, hb0.out⟩
    · obtain rfl : k = 6 := by omega
      have hspec : L.opS (bs s) = ([], [], 82) := by
        unfold L.opS
        rw [← opsB_L]
        have hm : (opsB.map bs).find? (fun y => y.isPrefixOf (bs s)) = none := find_miss fun j y hj hy => by
          rw [List.getElem?_map] at hy
          cases hq : opsB[j]? with
          | none => rw [hq] at hy; cases hy
          | some z =>
            rw [hq] at hy
            simp at hy
            subst hy
            exact hno.out j z (by simpa [opsB] using hj) hq
        rw [hm]
      have hs' := Lib.hid hspec
      clear hspec hno
      go_wp2_with fail
      go_ret3
      refine ⟨⟨⟨#[]⟩, ⟨#[]⟩, ?_, ?_, ?_⟩, hb0.out⟩ <;> rw [hs'.out] <;> rfl

end Go.Proofs.YtofemhaepadggaaDoor
