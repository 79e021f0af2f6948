/-
  THE WALK of lexer.Tokens: the tokens of a line.
-/
import Derived.Test.YtofemhaepadggaaDoorLexToken
import Derived.Test.YtofemhaepadggaaDoorLexPlain
import Derived.Test.YtofemhaepadggaaDoorLexTrim
import Derived.WalkMore
namespace Go.Proofs.YtofemhaepadggaaDoor
open Go.RowKit

/-- A token as texts. -/
structure TB where
  k : ByteArray
  n : ByteArray
  o : ByteArray
  v : ByteArray
def TB.tok (x : TB) : L.Tok := ⟨bs x.k, bs x.n, bs x.o, bs x.v⟩
def TB.cells (x : TB) : List Value := [.string x.k, .string x.n, .string x.o, .string x.v]
theorem TB.tok_inj {x y : TB} (h : x.tok = y.tok) : x = y := by
  unfold TB.tok at h
  injection h with h1 h2 h3 h4
  cases x; cases y
  simp only [TB.mk.injEq]
  exact ⟨bs_inj h1, bs_inj h2, bs_inj h3, bs_inj h4⟩
theorem toks_inj : ∀ {l m : List TB}, l.map TB.tok = m.map TB.tok → l = m
  | [], [], _ => rfl
  | [], _ :: _, h => by simp at h
  | _ :: _, [], h => by simp at h
  | x :: l, y :: m, h => by
    simp only [List.map_cons, List.cons.injEq] at h
    rw [TB.tok_inj h.1, toks_inj h.2]
def flatT : List TB → List Value
  | [] => []
  | x :: l => .string x.k :: .string x.n :: .string x.o :: .string x.v :: flatT l
theorem flatT_app (l m : List TB) : flatT (l ++ m) = flatT l ++ flatT m := by
  induction l with
  | nil => rfl
  | cons a l ih => simp [flatT, ih]
theorem length_flatT (l : List TB) : (flatT l).length = l.length * 4 := by
  induction l with
  | nil => rfl
  | cons a l ih => simp [flatT, ih]; omega
theorem flatT_get : ∀ (l : List TB) (k : Nat) (x : TB), l[k]? = some x → (flatT l)[k * 4]? = some (.string x.k) ∧ (flatT l)[k * 4 + 1]? = some (.string x.n) ∧ (flatT l)[k * 4 + 2]? = some (.string x.o) ∧ (flatT l)[k * 4 + 3]? = some (.string x.v)
  | [], k, x, h => by cases h
  | a :: l, 0, x, h => by
    simp at h
    subst h
    exact ⟨rfl, rfl, rfl, rfl⟩
  | a :: l, k + 1, x, h => by
    have := flatT_get l k x (by simpa using h)
    rw [show (k + 1) * 4 = k * 4 + 1 + 1 + 1 + 1 from by omega]
    exact this
theorem one_flatT : ∀ (l : List TB), ∀ v ∈ flatT l, v.oneCell' = true
  | [], v, h => by cases h
  | a :: l, v, h => by
    rcases List.mem_cons.1 h with h | h
    · subst h; rfl
    · rcases List.mem_cons.1 h with h | h
      · subst h; rfl
      · rcases List.mem_cons.1 h with h | h
        · subst h; rfl
        · rcases List.mem_cons.1 h with h | h
          · subst h; rfl
          · exact one_flatT l v h
/-- Tokens in the call's own blocks from B on. -/
def Toks (w : World) (B : Nat) (v : Value) (l : List TB) : Prop := w.ownsRow B 40 4 v l.length (flatT l)
theorem info_tok : (Tryd.prog.info? 40).map (fun i => (i.zero, i.size, i.bytes)) = some (some (.agg #[.string ⟨#[]⟩, .string ⟨#[]⟩, .string ⟨#[]⟩, .string ⟨#[]⟩]), 4, 64) := by kernel_rfl
theorem cell_tok_new (w : World) (a b c d : Value) (t : TypeId) : ∀ (j : Nat) (u : Value), [a, b, c, d][j]? = some u → (w.alloc (.cells #[a, b, c, d] t)).cell? ((⟨w.heap.size, 0, none⟩ : Addr).add j) = some u := by
  intro j u h
  match j with
  | 0 => simp at h; subst h; simp [Addr.add]
  | 1 => simp at h; subst h; simp [Addr.add]
  | 2 => simp at h; subst h; simp [Addr.add]
  | 3 => simp at h; subst h; simp [Addr.add]
  | j + 4 => simp at h

namespace L
theorem nameS_le (l : List Nat) : (nameS l).2.1.length ≤ l.length := by
  unfold nameS
  split
  · rename_i r
    split
    · simp
    · split
      · simp
      · simp; omega
  · simp
theorem opS_le (l : List Nat) : (opS l).2.1.length ≤ l.length := by
  unfold opS
  split
  · simp
  · simp
theorem valGo_le : ∀ (a l : List Nat), (valGo a l).2.1.length ≤ l.length := by
  intro a l
  induction a, l using valGo.induct with
  | case1 a => rw [valGo]; simp
  | case2 a r => rw [valGo]; simp
  | case3 a r => rw [valGo]; simp
  | case4 a r ih => rw [valGo]; simp; omega
  | case5 a c r h1 h2 h3 ih =>
    rw [valGo]
    · simp; omega
    · exact h1
    · exact h2
    · exact h3
theorem valS_le (l : List Nat) : (valS l).2.1.length ≤ l.length := by
  unfold valS
  split
  · rename_i r
    have := valGo_le [] r
    simp; omega
  · simp
theorem tokS_lt {l : List Nat} (h : (tokS l).2.2 = 0) : (tokS l).2.1.length < l.length := by
  have h1 := nameS_le (l.drop (cnt letter l))
  have h2 := opS_le (nameS (l.drop (cnt letter l))).2.1
  have h3 := valS_le (opS (nameS (l.drop (cnt letter l))).2.1).2.1
  have h4 := cnt_le letter l
  unfold tokS at h ⊢
  rw [List.length_drop] at h1
  split
  · rename_i h0; rw [if_pos h0] at h; cases h
  · rename_i h0
    rw [if_neg h0] at h
    dsimp only at h ⊢
    split
    · rename_i h5; rw [if_pos h5] at h; exact absurd h h5
    · rename_i h5
      rw [if_neg h5] at h
      split
      · rename_i h6; rw [if_pos h6] at h; exact absurd h h6
      · rename_i h6
        rw [if_neg h6] at h
        split
        · rename_i h7; rw [if_pos h7] at h; exact absurd h h7
        · simp only
          omega
end L

def strSize : Value → Nat
  | .string t => t.size
  | _ => 0
theorem isNil_bs {t : ByteArray} (h : bs t = []) : t.size = 0 := by rw [← length_bs, h]; rfl

/-- What Tokens hands back. -/
def ToksPost (w : World) (r : List L.Tok × Int) (e : Ending) (w' : World) : Prop :=
  (∃ (v : Value) (l : List TB), e = .returned (.tuple #[v, .int .i64 r.2]) ∧ l.map TB.tok = r.1 ∧ Toks w' w.heap.size v l) ∧ Below w.heap.size w w'

theorem tokGo_succ (f : Nat) (b : Bool) (l : List Nat) (acc : List L.Tok) : L.tokGo (f + 1) b l acc =
    if l.dropWhile L.sepL = [] then (acc, 0)
    else if b = true ∧ (l.dropWhile L.sepL).length = l.length then ([], 82)
    else if (L.tokS (l.dropWhile L.sepL)).2.2 ≠ 0 then ([], (L.tokS (l.dropWhile L.sepL)).2.2)
    else L.tokGo f true (L.tokS (l.dropWhile L.sepL)).2.1 (acc ++ [(L.tokS (l.dropWhile L.sepL)).1]) := rfl
theorem dropWhile_le (p : Nat → Bool) : ∀ l : List Nat, (l.dropWhile p).length ≤ l.length
  | [] => by simp
  | c :: l => by
    rw [List.dropWhile_cons]
    split
    · have := dropWhile_le p l; simp; omega
    · simp

set_option maxRecDepth 100000 in
set_option maxHeartbeats 4000000 in
theorem tokens_any (s : ByteArray) (w : World) : Calls Tryd.prog 13 #[.string s] w (ToksPost w (L.tokensS (bs s))) := by
  obtain ⟨i0, hi0, hz0, hz1, hz2⟩ := info_parts info_tok
  obtain ⟨T, hT⟩ : ∃ T, L.tokensS (bs s) = T := ⟨_, rfl⟩
  rw [hT]
  unfold L.tokensS at hT
  rw [length_bs] at hT
  by_cases hbig : 1024 < s.size
  · rw [if_pos hbig] at hT
    subst hT
    have i1 : (1024 : Int) < (s.size : Int) := by omega
    go_enter Tryd.func13, Tryd.ntmps13
    go_wp2
    go_step3
    go_wp2_with fail
    rw [Exit.noGoto_ret]
    go_ret2
    exact ⟨⟨_, [], rfl, rfl, World.ownsRow_nil _ _ _ _⟩, Below.refl _ _⟩
  · rw [if_neg hbig] at hT
    have i1 : ¬ (1024 : Int) < (s.size : Int) := by omega
    have hP := plain_any s w (by omega)
    obtain ⟨b, hb⟩ : ∃ b, (bs s).all L.plainB = b := ⟨_, rfl⟩
    rw [hb] at hP hT
    have hP' := Lib.hid hP; clear hP
    clear hb
    cases b with
    | false =>
      rw [if_pos rfl] at hT
      subst hT
      go_enter Tryd.func13, Tryd.ntmps13
      go_wp2
      go_step3
      go_wp2_with fail
      refine hP'.out.mono ?_
      rintro e v1 ⟨rfl, hb1⟩
      go_wp2_with fail
      rw [Exit.noGoto_ret]
      go_ret2
      exact ⟨⟨_, [], rfl, rfl, World.ownsRow_nil _ _ _ _⟩, hb1⟩
    | true =>
      rw [if_neg (by simp)] at hT
      have hT' := Lib.hid hT; clear hT
      have hi0' := Lib.hid hi0; clear hi0
      have hz0' := Lib.hid hz0; clear hz0
      have hz1' := Lib.hid hz1; clear hz1
      have hz2' := Lib.hid hz2; clear hz2
      have hs4 : s.size ≤ 1024 := by omega
      go_enter Tryd.func13, Tryd.ntmps13
      go_wp2
      go_step3
      go_wp2_with fail
      refine hP'.out.mono ?_
      rintro e v1 ⟨rfl, hb1⟩
      have hb1' := Lib.hid hb1; clear hb1
      go_wp2_with fail
      go_step3
      go_wp2_with fail
      go_loopw [0, 4, 5] (fun s0 s4 s5 wr => ∃ (t : ByteArray) (f : Nat) (b : Bool) (acc : List TB), s0 = .string t ∧ s5 = .bool b ∧ t.size < f ∧ acc.length + t.size ≤ 1024 ∧ Hid (L.tokGo f b (bs t) (acc.map TB.tok) = T) ∧ Hid (Toks wr w.heap.size s4 acc) ∧ Hid (Below w.heap.size w wr)) (fun s0 _ _ _ => strSize s0)
      case atStart => exact ⟨s, s.size + 1, false, [], rfl, rfl, by omega, by simp; omega, hT', World.ownsRow_nil _ _ _ _, hb1'⟩
      case round =>
        obtain ⟨t, f, b, acc, rfl, rfl, hf, hal, hg, hown, hb⟩ := hrel
        clear hT' hP'
        obtain ⟨f', rfl⟩ : ∃ f', f = f' + 1 := ⟨f - 1, by omega⟩
        have hg1 := hg.out
        rw [tokGo_succ] at hg1
        have hTr := Lib.hid (trimL_any t wr (by omega))
        obtain ⟨r, hr⟩ : ∃ r, (bs t).dropWhile L.sepL = r := ⟨_, rfl⟩
        have hrl := dropWhile_le L.sepL (bs t)
        rw [length_bs] at hrl hg1
        rw [hr] at hTr hg1 hrl
        have hwr := hb.out.size
        clear hr hg
        by_cases hnil : r = []
        · rw [if_pos hnil] at hg1
          have hg' := Lib.hid hg1; clear hg1
          go_wp2_with fail
          refine hTr.out.mono ?_
          rintro e v2 ⟨⟨u, rfl, hu⟩, hb2⟩
          have hz : u.size = 0 := isNil_bs (hu.trans hnil)
          have e1 : (u.toList == []) = true := list_emp hz
          have hown2 : Hid (Toks v2 w.heap.size u4 acc) := own_below hown.out hb2
          have hbb : Hid (Below w.heap.size w v2) := hb.out.trans (hb2.mono hwr)
          clear hown hb hb2 hnil hu
          go_wp2_with fail
          rw [Exit.noGoto_ret]
          go_ret2
          rw [← hg'.out]
          exact ⟨⟨_, acc, rfl, rfl, hown2.out⟩, hbb.out⟩
        · rw [if_neg hnil] at hg1
          have hrpos : 0 < r.length := List.length_pos_iff.2 hnil
          have hR : ∀ (X : Prop) [Decidable X] (y z : List L.Tok × Int), (b = true ∧ X) ∨ ¬ (b = true ∧ X) := fun X _ _ _ => Decidable.em _
          by_cases hbe : b = true ∧ r.length = t.size
          · rw [if_pos hbe] at hg1
            obtain ⟨rfl, hrt⟩ := hbe
            have hg' := Lib.hid hg1; clear hg1 hR
            go_wp2_with fail
            refine hTr.out.mono ?_
            rintro e v2 ⟨⟨u, rfl, hu⟩, hb2⟩
            have hus : u.size = r.length := by rw [← hu, length_bs]
            have e1 : (u.toList == []) = false := list_ne u (by omega)
            have i5 : (u.size : Int) = (t.size : Int) := by omega
            have hbb : Hid (Below w.heap.size w v2) := hb.out.trans (hb2.mono hwr)
            clear hown hb hb2 hnil hu hrt hus
            go_wp2_with fail
            rw [Exit.noGoto_ret]
            go_ret2
            rw [← hg'.out]
            exact ⟨⟨_, [], rfl, rfl, World.ownsRow_nil _ _ _ _⟩, hbb.out⟩
          · rw [if_neg hbe] at hg1
            have hK := fun (u : ByteArray) W (hu : bs u = r) => (by have := token_any u W (by have := length_bs u; rw [hu] at this; omega); rw [hu] at this; exact this : Calls Tryd.prog 32 #[.string u] W (TokPost W (L.tokS r)))
            have hlt := @L.tokS_lt r
            obtain ⟨X, hX⟩ : ∃ X, L.tokS r = X := ⟨_, rfl⟩
            rw [hX] at hK hg1 hlt
            have hK' := Lib.hid hK; clear hK hX hR
            have hbe' := Lib.hid hbe; clear hbe
            have hnil' := Lib.hid hnil; clear hnil
            by_cases hX0 : X.2.2 = 0
            · rw [if_neg (by simpa using hX0)] at hg1
              have hlt' := hlt hX0
              have hg' := Lib.hid hg1; clear hg1 hlt
              have hwp : ∀ (b' : Bool), b' = b → True := fun _ _ => trivial
              cases hbb0 : b with
              | true =>
                subst hbb0
                go_wp2_with fail
                refine hTr.out.mono ?_
                rintro e v2 ⟨⟨u, rfl, hu⟩, hb2⟩
                have hus : u.size = r.length := by rw [← hu, length_bs]
                have e1 : (u.toList == []) = false := list_ne u (by omega)
                have i5 : ((u.size : Int) == (t.size : Int)) = false := beq_eq_false_iff_ne.2 (by have := hbe'.out; simp at this; omega)
                have hu' := Lib.hid hu; clear hu
                have hown2 : Hid (Toks v2 w.heap.size u4 acc) := own_below hown.out hb2
                have hbb : Hid (Below w.heap.size w v2) := hb.out.trans (hb2.mono hwr)
                have hw2 := hbb.out.size
                clear hown hb hb2
                go_wp2_with fail
                refine (hK'.out u v2 hu'.out).mono ?_
                rintro e v3 ⟨⟨ta, tb, tc, td, rs, rfl, h1, h2, h3, h4, h5⟩, hb3⟩
                have htk : Hid (TB.tok ⟨ta, tb, tc, td⟩ = X.1) := by
                  show TB.tok ⟨ta, tb, tc, td⟩ = X.1
                  unfold TB.tok
                  rw [h1, h2, h3, h4]
                have hrs : rs.size = X.2.1.length := by rw [← h5, length_bs]
                have hrs2 : Hid (bs rs = X.2.1) := h5
                have hown3 : Hid (Toks v3 w.heap.size u4 acc) := own_below hown2.out hb3
                have hbb3 : Hid (Below w.heap.size w v3) := hbb.out.trans (hb3.mono hw2)
                have hw3 := hbb3.out.size
                clear hown2 hb3 hbb h1 h2 h3 h4 h5
                rw [hX0]
                unfold tokC
                have hownA : Hid (Toks (v3.alloc (.cells #[.string ta, .string tb, .string tc, .string td] 40)) w.heap.size u4 acc) := own_below hown3.out (Below.alloc (Below.refl _ _) (Nat.le_refl _) _)
                have hbA : Hid (Below w.heap.size w (v3.alloc (.cells #[.string ta, .string tb, .string tc, .string td] 40))) := hbb3.out.alloc hw3 _
                go_wp2_with (at_builtin; refine wpList_append_own _ rfl (.tmp 41) (.tmp 43) 26 rfl w.heap.size 40 i0 (.agg #[.string ⟨#[]⟩, .string ⟨#[]⟩, .string ⟨#[]⟩, .string ⟨#[]⟩]) 4 64 Tryd.underlying26 hi0'.out hz0'.out hz1'.out hz2'.out rfl (by decide) u4 acc.length (flatT acc) rfl (own_below hownA.out (Below.alloc (Below.refl _ _) (Nat.le_refl _) _)) ⟨v3.heap.size + 1, 0, none⟩ 1 1 [.string ta, .string tb, .string tc, .string td] rfl rfl (by intro j u hu; have := cell_tok_new (v3.alloc (.cells #[.string ta, .string tb, .string tc, .string td] 40)) (.string ta) (.string tb) (.string tc) (.string td) 40 j u hu; simpa using this) (by intro u hu; simp at hu; rcases hu with rfl | rfl | rfl | rfl <;> rfl) (by simp only [maxLen]; omega) (by omega) (by simp; omega) ?_; intro v' w1' hown' hgrow _)
                go_roundw
                case rel =>
                  refine ⟨rs, f', true, acc ++ [⟨ta, tb, tc, td⟩], rfl, rfl, by omega, by simp; omega, ?_, ?_, ?_⟩
                  · have := hg'.out
                    rw [← htk.out, ← hrs2.out] at this
                    show L.tokGo f' true (bs rs) ((acc ++ [(⟨ta, tb, tc, td⟩ : TB)]).map TB.tok) = T
                    rw [List.map_append]
                    exact this
                  · show Toks w1' _ _ _
                    unfold Toks
                    rw [flatT_app, List.length_append]
                    exact hown'
                  · exact (hbA.out.alloc (by simp; omega) _).grown hgrow (by simp; omega) (fun k e => by have := hown3.out.lt _ e; omega)
                case measure => simp [strSize]; omega
              | false =>
                subst hbb0
                go_wp2_with fail
                refine hTr.out.mono ?_
                rintro e v2 ⟨⟨u, rfl, hu⟩, hb2⟩
                have hus : u.size = r.length := by rw [← hu, length_bs]
                have e1 : (u.toList == []) = false := list_ne u (by omega)
                have hu' := Lib.hid hu; clear hu
                have hown2 : Hid (Toks v2 w.heap.size u4 acc) := own_below hown.out hb2
                have hbb : Hid (Below w.heap.size w v2) := hb.out.trans (hb2.mono hwr)
                have hw2 := hbb.out.size
                clear hown hb hb2
                go_wp2_with fail
                refine (hK'.out u v2 hu'.out).mono ?_
                rintro e v3 ⟨⟨ta, tb, tc, td, rs, rfl, h1, h2, h3, h4, h5⟩, hb3⟩
                have htk : Hid (TB.tok ⟨ta, tb, tc, td⟩ = X.1) := by
                  show TB.tok ⟨ta, tb, tc, td⟩ = X.1
                  unfold TB.tok
                  rw [h1, h2, h3, h4]
                have hrs : rs.size = X.2.1.length := by rw [← h5, length_bs]
                have hrs2 : Hid (bs rs = X.2.1) := h5
                have hown3 : Hid (Toks v3 w.heap.size u4 acc) := own_below hown2.out hb3
                have hbb3 : Hid (Below w.heap.size w v3) := hbb.out.trans (hb3.mono hw2)
                have hw3 := hbb3.out.size
                clear hown2 hb3 hbb h1 h2 h3 h4 h5
                rw [hX0]
                unfold tokC
                have hownA : Hid (Toks (v3.alloc (.cells #[.string ta, .string tb, .string tc, .string td] 40)) w.heap.size u4 acc) := own_below hown3.out (Below.alloc (Below.refl _ _) (Nat.le_refl _) _)
                have hbA : Hid (Below w.heap.size w (v3.alloc (.cells #[.string ta, .string tb, .string tc, .string td] 40))) := hbb3.out.alloc hw3 _
                go_wp2_with (at_builtin; refine wpList_append_own _ rfl (.tmp 41) (.tmp 43) 26 rfl w.heap.size 40 i0 (.agg #[.string ⟨#[]⟩, .string ⟨#[]⟩, .string ⟨#[]⟩, .string ⟨#[]⟩]) 4 64 Tryd.underlying26 hi0'.out hz0'.out hz1'.out hz2'.out rfl (by decide) u4 acc.length (flatT acc) rfl (own_below hownA.out (Below.alloc (Below.refl _ _) (Nat.le_refl _) _)) ⟨v3.heap.size + 1, 0, none⟩ 1 1 [.string ta, .string tb, .string tc, .string td] rfl rfl (by intro j u hu; have := cell_tok_new (v3.alloc (.cells #[.string ta, .string tb, .string tc, .string td] 40)) (.string ta) (.string tb) (.string tc) (.string td) 40 j u hu; simpa using this) (by intro u hu; simp at hu; rcases hu with rfl | rfl | rfl | rfl <;> rfl) (by simp only [maxLen]; omega) (by omega) (by simp; omega) ?_; intro v' w1' hown' hgrow _)
                go_roundw
                case rel =>
                  refine ⟨rs, f', true, acc ++ [⟨ta, tb, tc, td⟩], rfl, rfl, by omega, by simp; omega, ?_, ?_, ?_⟩
                  · have := hg'.out
                    rw [← htk.out, ← hrs2.out] at this
                    show L.tokGo f' true (bs rs) ((acc ++ [(⟨ta, tb, tc, td⟩ : TB)]).map TB.tok) = T
                    rw [List.map_append]
                    exact this
                  · show Toks w1' _ _ _
                    unfold Toks
                    rw [flatT_app, List.length_append]
                    exact hown'
                  · exact (hbA.out.alloc (by simp; omega) _).grown hgrow (by simp; omega) (fun k e => by have := hown3.out.lt _ e; omega)
                case measure => simp [strSize]; omega
            · rw [if_pos (by simpa using hX0)] at hg1
              have hg' := Lib.hid hg1; clear hg1 hlt
              have ig : ¬ X.2.2 = 0 := hX0
              have ig' : (X.2.2 == 0) = false := beq_eq_false_iff_ne.2 hX0
              cases hbb0 : b with
              | true =>
                subst hbb0
                go_wp2_with fail
                refine hTr.out.mono ?_
                rintro e v2 ⟨⟨u, rfl, hu⟩, hb2⟩
                have hus : u.size = r.length := by rw [← hu, length_bs]
                have e1 : (u.toList == []) = false := list_ne u (by omega)
                have i5 : ((u.size : Int) == (t.size : Int)) = false := beq_eq_false_iff_ne.2 (by have := hbe'.out; simp at this; omega)
                have hu' := Lib.hid hu; clear hu
                have hbb : Hid (Below w.heap.size w v2) := hb.out.trans (hb2.mono hwr)
                have hw2 := hbb.out.size
                clear hown hb hb2
                go_wp2_with fail
                refine (hK'.out u v2 hu'.out).mono ?_
                rintro e v3 ⟨⟨ta, tb, tc, td, rs, rfl, _, _, _, _, _⟩, hb3⟩
                have hbb3 : Hid (Below w.heap.size w v3) := hbb.out.trans (hb3.mono hw2)
                have hw3 := hbb3.out.size
                clear hb3 hbb
                unfold tokC
                go_wp2_with fail
                rw [Exit.noGoto_ret]
                go_ret2
                rw [← hg'.out]
                exact ⟨⟨_, [], rfl, rfl, World.ownsRow_nil _ _ _ _⟩, hbb3.out.alloc hw3 _⟩
              | false =>
                subst hbb0
                go_wp2_with fail
                refine hTr.out.mono ?_
                rintro e v2 ⟨⟨u, rfl, hu⟩, hb2⟩
                have hus : u.size = r.length := by rw [← hu, length_bs]
                have e1 : (u.toList == []) = false := list_ne u (by omega)
                have hu' := Lib.hid hu; clear hu
                have hbb : Hid (Below w.heap.size w v2) := hb.out.trans (hb2.mono hwr)
                have hw2 := hbb.out.size
                clear hown hb hb2
                go_wp2_with fail
                refine (hK'.out u v2 hu'.out).mono ?_
                rintro e v3 ⟨⟨ta, tb, tc, td, rs, rfl, _, _, _, _, _⟩, hb3⟩
                have hbb3 : Hid (Below w.heap.size w v3) := hbb.out.trans (hb3.mono hw2)
                have hw3 := hbb3.out.size
                clear hb3 hbb
                unfold tokC
                go_wp2_with fail
                rw [Exit.noGoto_ret]
                go_ret2
                rw [← hg'.out]
                exact ⟨⟨_, [], rfl, rfl, World.ownsRow_nil _ _ _ _⟩, hbb3.out.alloc hw3 _⟩

end Go.Proofs.YtofemhaepadggaaDoor
