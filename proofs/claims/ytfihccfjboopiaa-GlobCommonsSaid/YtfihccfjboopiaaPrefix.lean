/-
  THE WALK of glob.Prefix.
-/
import Derived.Test.YtfihccfjboopiaaBegin
import Derived.Test.YtfihccfjboopiaaGlobJoin
namespace Go.Proofs.Ytfihccfjboopiaa
open Go.RowKit Go.Maps

theorem alts_ne {p : List Nat} {l : List (List G.El)} (h : G.alts p = some l) : l ≠ [] := by
  unfold G.alts at h
  split at h
  · exact G.go_ne _ _ _ _ _ (Nat.le_refl _) (by simp) h
  · cases h
theorem Alts.parts {w : World} {B : Nat} {v : Value} {l : List (List G.El)} (h : Alts w B v l) : ∃ p cap, v = .slice p l.length cap ∧ l.length ≤ cap ∧ ∀ k a, l[k]? = some a → ∃ g u, p = some ⟨g, 0, none⟩ ∧ g < w.heap.size ∧ w.cell? ⟨g, k, none⟩ = some u ∧ Row w B u a := by
  obtain ⟨p, cap, hv⟩ := h.len
  have hcap : l.length ≤ cap := by
    subst hv
    obtain ⟨vs, ho, _⟩ := h
    rcases ho.2 with ⟨h0, h1⟩ | ⟨g, c2, cur, h0, hg, hh, hn, hc, _⟩
    · omega
    · cases h0
      omega
  refine ⟨p, cap, hv, hcap, fun k a ha => ?_⟩
  obtain ⟨g, c2, u, hv2, hc, hr⟩ := h.form ha
  rw [hv] at hv2
  cases hv2
  exact ⟨g, u, rfl, World.block_lt_of_cell? w _ hc, hc, hr⟩
theorem Row.below {w w' : World} {B : Nat} {v : Value} {l : List G.El} (h : Row w B v l) (hb : Below w.heap.size w w') : Row w' B v l := own_below h hb
theorem bs_take (p : ByteArray) (n : Nat) : bs (p.extract 0 n) = (bs p).take n := by
  unfold bs
  rw [ByteArray.data_extract, Array.toList_extract, List.map_take]
  simp

set_option maxHeartbeats 400000 in
theorem prefix_bad (p : ByteArray) (w : World) (hp : p.size ≤ 1000000000000) {er : Int} (h : errS (bs p) = er) (h0 : er ≠ 0) :
    Calls Try.prog 45 #[.string p] w fun e w' => e = .returned (.tuple #[.string ⟨#[]⟩, .int .i64 er]) ∧ Below w.heap.size w w' := by
  have hP := parse_bad p w hp h
  have hb1 : (er != 0) = true := by simpa using h0
  have hP' := Lib.hid hP; clear hP h
  go_enter Try.func45, Try.ntmps45
  go_wp2_with (go_at_call 39; refine hP'.out.mono ?_; rintro e w' ⟨v, rfl, hb⟩)
  go_ret2
  exact ⟨rfl, hb⟩

/-- The beginning of the alternatives before place j behind the first one. -/
def preTo (a : List G.El) (r : List (List G.El)) (j : Nat) : List Nat := (r.take j).foldl (fun s b => G.lcp (G.litPre b) s) (G.litPre a)
theorem preTo_more {a : List G.El} {r : List (List G.El)} {j : Nat} {b : List G.El} (h : r[j]? = some b) : preTo a r (j + 1) = G.lcp (G.litPre b) (preTo a r j) := by
  unfold preTo
  rw [List.take_add_one, h, List.foldl_append]
  rfl
theorem preTo_len (a : List G.El) (r : List (List G.El)) (j : Nat) : (preTo a r j).length ≤ a.length :=
  Nat.le_trans (G.foldl_pre (r.take j) (G.litPre a)).1.length_le (G.litPre_len a)

set_option maxRecDepth 100000 in
set_option maxHeartbeats 2000000 in
theorem prefix_ok (p : ByteArray) (w : World) (hp : p.size ≤ 1000000000000) {L : List (List G.El)} (h : G.alts (bs p) = some L) :
    Calls Try.prog 45 #[.string p] w fun e w' => ∃ s : ByteArray, e = .returned (.tuple #[.string s, .int .i64 0]) ∧ bs s = G.preS L ∧ Below w.heap.size w w' := by
  have hne := alts_ne h
  have hlit := G.alts_lit h
  have hP := parse_good p w hp h
  have hP' := Lib.hid hP; clear hP h
  obtain ⟨a, r, rfl⟩ : ∃ a r, L = a :: r := by
    cases L with
    | nil => exact absurd rfl hne
    | cons a r => exact ⟨a, r, rfl⟩
  clear hne
  have hlit' := Lib.hid hlit; clear hlit
  go_enter Try.func45, Try.ntmps45
  go_wp2_with fail
  refine hP'.out.mono ?_
  clear hP'
  rintro e w1 ⟨v, rfl, hb1, ha1, hl1, he1⟩
  obtain ⟨pp, cap, rfl, hcap, hpf⟩ := ha1.parts
  obtain ⟨g, u0, rfl, hg, hc0, hr0⟩ := hpf 0 a rfl
  have hB := begin_any hr0 (he1 a (by simp)) (hlit'.out a (by simp))
  simp only [List.length_cons] at hcap hl1
  have hcells : ∀ j b, r[j]? = some b → ∃ u, w1.cell? ⟨g, j + 1, none⟩ = some u ∧ Row w1 w.heap.size u b := fun j b hj => by
    obtain ⟨g2, u, h1, _, h2, h3⟩ := hpf (j + 1) b (by simpa using hj)
    cases h1
    exact ⟨u, h2, h3⟩
  have he1' := Lib.hid he1; clear he1
  have hcells' := Lib.hid hcells; clear hcells hpf ha1 hr0
  have hb1' := Lib.hid hb1; clear hb1
  have hB' := Lib.hid hB; clear hB
  simp only [List.length_cons]
  go_wp2_with fail
  refine hB'.out.mono ?_
  clear hB'
  rintro e w2 ⟨st, rfl, hst, hb2⟩
  have hst' := Lib.hid hst; clear hst
  have hb2' := Lib.hid hb2; clear hb2
  go_wp2_with fail
  · obtain rfl : r = [] := List.eq_nil_of_length_eq_zero (by omega)
    have hfin : bs st = G.preS [a] ∧ Below w.heap.size w w2 := ⟨hst'.out, hb1'.out.trans (hb2'.out.mono hb1'.out.size)⟩
    have hfin' := Lib.hid hfin; clear hfin
    go_loopw [6, 26] (fun s6 s26 wr => s6 = .string st ∧ s26 = .int .i64 0 ∧ wr = w2) (fun _ _ _ => 0)
    case atStart => exact ⟨rfl, rfl, rfl⟩
    case round =>
      obtain ⟨rfl, rfl, rfl⟩ := hrel
      go_wp2_with fail
      go_ret2
      exact ⟨st, rfl, hfin'.out.1, hfin'.out.2⟩
  · have h0 : bs st = preTo a r 0 ∧ Below w.heap.size w w2 := ⟨hst'.out, hb1'.out.trans (hb2'.out.mono hb1'.out.size)⟩
    have hbw : Below w1.heap.size w1 w2 := hb2'.out
    have hbw' := Lib.hid hbw; clear hbw
    have h0' := Lib.hid h0; clear h0 hst' hb2'
    have hz1 := hb1'.out.size
    have hla := he1'.out a (by simp)
    go_loopw [6, 26] (fun s6 s26 wr => ∃ (j : Nat) (s : ByteArray), j ≤ r.length ∧ s6 = .string s ∧ s26 = .int .i64 j ∧ bs s = preTo a r j ∧ Below w.heap.size w wr ∧ Below w1.heap.size w1 wr) (fun _ s26 _ => r.length - (intOf s26).toNat)
    case atStart => exact ⟨0, st, by omega, rfl, rfl, h0'.out.1, h0'.out.2, hbw'.out⟩
    case round =>
      obtain ⟨j, s, hj, rfl, rfl, r1, r2, r3⟩ := hrel
      clear h0' hbw'
      have hsl : s.size ≤ 256 := by
        have h1 := length_bs s
        rw [r1] at h1
        have h2 := preTo_len a r j
        omega
      by_cases hlt : j < r.length
      · obtain ⟨b, hb⟩ : ∃ b, r[j]? = some b := ⟨_, List.getElem?_eq_getElem hlt⟩
        obtain ⟨u, hu, hru⟩ := hcells'.out j b hb
        have hmem : b ∈ a :: r := List.mem_cons_of_mem _ (List.mem_of_getElem? hb)
        have hcu : wr.cell? ⟨g, 1 + j, none⟩ = some u := by rw [Nat.add_comm]; exact (r3.cell (p := ⟨g, j + 1, none⟩) hg).trans hu
        clear hu
        have hcall := begin_any (hru.below r3) (he1'.out b hmem) (hlit'.out b hmem)
        have hlb := he1'.out b hmem
        have hcall' := Lib.hid hcall; clear hcall hru
        have r1' := Lib.hid r1; clear r1
        have r2' := Lib.hid r2; clear r2
        have r3' := Lib.hid r3; clear r3
        have hb' := Lib.hid hb; clear hb hmem
        go_wp2_with fail
        refine hcall'.out.mono ?_
        clear hcall'
        rintro e w4 ⟨q, rfl, hq, hb4⟩
        have hql : q.size ≤ 256 := by
          have h1 := length_bs q
          rw [hq] at h1
          have h2 := G.litPre_len b
          omega
        have s1 : Below w.heap.size w w4 := r2'.out.trans (hb4.mono r2'.out.size)
        have s2 : Below w1.heap.size w1 w4 := r3'.out.trans (hb4.mono r3'.out.size)
        have hq' := Lib.hid hq; clear hq hb4 r2' r3'
        have s1' := Lib.hid s1; clear s1
        have s2' := Lib.hid s2; clear s2
        have l0 : bs s = preTo a r j := r1'.out
        go_wp2_with fail
        go_loopw [10] (fun s10 wr => ∃ (n nd : Nat), s10 = .int .i64 n ∧ G.SameTo (bs q) (bs s) n ∧ wr = w4.drewN nd) (fun s10 _ => s.size - (intOf s10).toNat)
        case atStart => exact ⟨0, 0, rfl, G.SameTo.start _ _, rfl⟩
        case round =>
          obtain ⟨n, nd, rfl, hsm, rfl⟩ := hrel
          have hn1 := hsm.1
          have hn2 := hsm.2.1
          rw [length_bs] at hn1 hn2
          have hsm' := Lib.hid hsm; clear hsm
          have hfin : G.lcp (bs q) (bs s) = (bs s).take n → bs (s.extract 0 n) = preTo a r (j + 1) := fun h => by
            rw [bs_take, ← h, hq'.out, l0, preTo_more hb'.out]
          have hfin' := Lib.hid hfin; clear hfin
          by_cases hm : (s.size : Int) < (q.size : Int)
          · by_cases hlt2 : n < s.size
            · have c1 : n < q.size := by omega
              have c2 : n < s.size := by omega
              have i1 : (n : Int) < (q.size : Int) := by omega
              have i2 : (n : Int) < (s.size : Int) := by omega
              have i3 : (0 : Int) ≤ (n : Int) := by omega
              have g1 := get_bs q n c1
              have g2 := get_bs s n c2
              by_cases he : (q[n]'c1).toNat = (s[n]'c2).toNat
              · have hmore := hsm'.out.more g1 (by rw [he]; exact g2)
                have e1 : (((q[n]'c1).toNat : Int) == ((s[n]'c2).toNat : Int)) = true := by rw [he]; simp
                have e2 : decide (((q[n]'c1).toNat : Int) = ((s[n]'c2).toNat : Int)) = true := by rw [he]; simp
                have hmore' := Lib.hid hmore; clear hmore hfin' g1 g2 he
                go_wp2_with fail
                go_quiet (fail)
                go_wp2_with fail
                go_roundw
                case rel => exact ⟨n + 1, nd + nq, by go_num, hmore'.out, by simp⟩
                case measure => simp [intOf]; omega
              · have hdone := hfin'.out (hsm'.out.other g1 g2 he)
                have e1 : (((q[n]'c1).toNat : Int) == ((s[n]'c2).toNat : Int)) = false := by rw [beq_eq_false_iff_ne]; omega
                have e2 : decide (((q[n]'c1).toNat : Int) = ((s[n]'c2).toNat : Int)) = false := by rw [decide_eq_false_iff_not]; omega
                have hdone' := Lib.hid hdone; clear hdone hfin' g1 g2
                go_wp2_with fail
                go_quiet (fail)
                go_wp2_with fail
                go_roundw
                case rel => exact ⟨j + 1, s.extract 0 n, by omega, rfl, by go_num, hdone'.out, below_drewN s1'.out _, below_drewN s2'.out _⟩
                case measure => simp [intOf]; omega
            · have i1 : ¬ (n : Int) < (s.size : Int) := by omega
              have hdone := hfin'.out (hsm'.out.end_ (by rw [length_bs, length_bs]; omega))
              have hdone' := Lib.hid hdone; clear hdone hfin'
              go_wp2_with fail
              go_quiet (fail)
              go_wp2_with fail
              go_roundw
              case rel => exact ⟨j + 1, s.extract 0 n, by omega, rfl, by go_num, hdone'.out, below_drewN s1'.out _, below_drewN s2'.out _⟩
              case measure => simp [intOf]; omega
          · by_cases hlt2 : n < q.size
            · have c1 : n < q.size := by omega
              have c2 : n < s.size := by omega
              have i1 : (n : Int) < (q.size : Int) := by omega
              have i2 : (n : Int) < (s.size : Int) := by omega
              have i3 : (0 : Int) ≤ (n : Int) := by omega
              have g1 := get_bs q n c1
              have g2 := get_bs s n c2
              by_cases he : (q[n]'c1).toNat = (s[n]'c2).toNat
              · have hmore := hsm'.out.more g1 (by rw [he]; exact g2)
                have e1 : (((q[n]'c1).toNat : Int) == ((s[n]'c2).toNat : Int)) = true := by rw [he]; simp
                have e2 : decide (((q[n]'c1).toNat : Int) = ((s[n]'c2).toNat : Int)) = true := by rw [he]; simp
                have hmore' := Lib.hid hmore; clear hmore hfin' g1 g2 he
                go_wp2_with fail
                go_quiet (fail)
                go_wp2_with fail
                go_roundw
                case rel => exact ⟨n + 1, nd + nq, by go_num, hmore'.out, by simp⟩
                case measure => simp [intOf]; omega
              · have hdone := hfin'.out (hsm'.out.other g1 g2 he)
                have e1 : (((q[n]'c1).toNat : Int) == ((s[n]'c2).toNat : Int)) = false := by rw [beq_eq_false_iff_ne]; omega
                have e2 : decide (((q[n]'c1).toNat : Int) = ((s[n]'c2).toNat : Int)) = false := by rw [decide_eq_false_iff_not]; omega
                have hdone' := Lib.hid hdone; clear hdone hfin' g1 g2
                go_wp2_with fail
                go_quiet (fail)
                go_wp2_with fail
                go_roundw
                case rel => exact ⟨j + 1, s.extract 0 n, by omega, rfl, by go_num, hdone'.out, below_drewN s1'.out _, below_drewN s2'.out _⟩
                case measure => simp [intOf]; omega
            · have i1 : ¬ (n : Int) < (q.size : Int) := by omega
              have hdone := hfin'.out (hsm'.out.end_ (by rw [length_bs, length_bs]; omega))
              have hdone' := Lib.hid hdone; clear hdone hfin'
              go_wp2_with fail
              go_quiet (fail)
              go_wp2_with fail
              go_roundw
              case rel => exact ⟨j + 1, s.extract 0 n, by omega, rfl, by go_num, hdone'.out, below_drewN s1'.out _, below_drewN s2'.out _⟩
              case measure => simp [intOf]; omega
      · obtain rfl : j = r.length := by omega
        have hfin : bs s = G.preS (a :: r) := by rw [r1]; unfold preTo; rw [List.take_length]; rfl
        have hfin' := Lib.hid hfin; clear hfin r1 r3
        have r2' := Lib.hid r2; clear r2
        go_wp2_with fail
        go_ret2
        exact ⟨s, rfl, hfin'.out, r2'.out⟩

/-- What glob.Prefix answers. -/
def PreIs (p s : List Nat) (er : Int) : Prop := er = errS p ∧ (er ≠ 0 → s = []) ∧ ∀ l, G.alts p = some l → s = G.preS l
theorem prefix_any (p : ByteArray) (w : World) (hp : p.size ≤ 1000000000000) : Calls Try.prog 45 #[.string p] w fun e w' => ∃ (s : ByteArray) (er : Int), e = .returned (.tuple #[.string s, .int .i64 er]) ∧ PreIs (bs p) (bs s) er ∧ Below w.heap.size w w' := by
  by_cases h : errS (bs p) = 0
  · obtain ⟨l, hl⟩ := errS_zero h
    refine (prefix_ok p w hp hl).mono ?_
    rintro e w' ⟨s, he, hs, hb⟩
    exact ⟨s, 0, he, ⟨h.symm, fun h => absurd rfl h, fun l2 hl2 => by rw [hl] at hl2; cases hl2; exact hs⟩, hb⟩
  · refine (prefix_bad p w hp rfl h).mono ?_
    rintro e w' ⟨he, hb⟩
    exact ⟨⟨#[]⟩, _, he, ⟨rfl, fun _ => rfl, fun l hl => absurd (errS_some hl) h⟩, hb⟩

end Go.Proofs.Ytfihccfjboopiaa
