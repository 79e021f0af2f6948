/-
  THE WALK of coldplugref02.Common.
-/
import Derived.Test.YtfihccfjboopiaaRefClosed
import Derived.Test.YtfihccfjboopiaaRefCheck
import Derived.Test.YtfihccfjboopiaaComFn
import Derived.BigRegion
namespace Go.Proofs.Ytfihccfjboopiaa
open Go Go.RowKit

section
variable {ops : Array Oper} {rest : List Oper} {o : Oper} {a : Act} {w : World} {Q : Exit → Act → World → Prop}
/-- append of pairs in a plain region. -/
theorem list_app_pairs (hgd : o.guard = none) (s x : Operand) (B : Nat) (p : Option Addr) (n cp : Nat) (L : List PE) (V : Value) (l : List PE)
    (ho : o.op = .call { callee := .builtin .append, args := #[s, x], argTypes := #[95, 95] })
    (hs : a.eval s = .slice p n cp) (hown : OwnP w B p n cp L) (hx : a.eval x = V) (hV : PairsAt w V l)
    (N : Nat) (hN : n + l.length = N) (hn : N ≤ 1000000000000) (hbase : B ≤ w.heap.size)
    (h : ∀ p' cp' w', OwnP w' B p' N cp' (L ++ l) → Only (fun k => (Value.slice p n cp).ownBlock = some k) w w' → wpList Try.prog ops Q rest (a.put o.dst (.slice p' N cp')) w') :
    wpList Try.prog ops Q (o :: rest) a w := by
  subst hN
  obtain ⟨i, hi, hz, hsz, hby⟩ := info_parts rinfo_pair
  obtain ⟨ad, c, rfl⟩ : ∃ ad c, V = .slice ad l.length c := by
    rcases hV.2 with ⟨hv, h0⟩ | ⟨g, o, cap, hv, _⟩
    · rw [List.map_eq_nil_iff] at h0
      subst h0
      exact ⟨none, 0, hv⟩
    · exact ⟨_, cap, by rw [hv, List.length_map]⟩
  refine wpList_plain hgd fun _ hK => wp_append_all s x 95 ho B 97 i (.agg #[.int .i64 0, .int .i64 0, .int .i64 0, .int .i64 0, .string ⟨#[]⟩]) 5 48 Try.underlying95 hi hz hsz hby rfl (by decide) p n cp (flatP L) hs hown.2 ad l.length c (flatP l) hx (flatP_len l) hV.news hV.some (rpair_one l) (by simp only [maxLen]; omega) (by omega) hbase fun p' cp' w' h1 h2 => hK _ _ (h p' cp' w' ⟨?_, ?_⟩ h2)
  · rw [List.length_append, hown.1]
  · rw [flatP_app]; exact h1
end

/-- The pairs with which the search begins: whole rows below i, of row i those below j. -/
def startE (yn i j : Nat) : List PE := ((List.range i).flatMap fun a => (List.range yn).map fun b => ((⟨a, 0, b, 0⟩, ⟨#[]⟩) : PE)) ++ (List.range j).map fun b => ((⟨i, 0, b, 0⟩, ⟨#[]⟩) : PE)
theorem startE_more (yn i j : Nat) : startE yn i (j + 1) = startE yn i j ++ [((⟨i, 0, j, 0⟩, ⟨#[]⟩) : PE)] := by
  unfold startE
  rw [List.range_succ, List.map_append, ← List.append_assoc]
  rfl
theorem startE_row (yn i : Nat) : startE yn (i + 1) 0 = startE yn i yn := by
  unfold startE
  rw [List.range_succ, List.flatMap_append]
  simp
theorem startE_mem {yn i : Nat} {x : PE} (h : x ∈ startE yn i 0) : ∃ a b, a < i ∧ b < yn ∧ x = (⟨a, 0, b, 0⟩, ⟨#[]⟩) := by
  unfold startE at h
  simp only [List.range_zero, List.map_nil, List.append_nil, List.mem_flatMap, List.mem_range, List.mem_map] at h
  obtain ⟨a, ha, b, hb, rfl⟩ := h
  exact ⟨a, b, ha, hb, rfl⟩
theorem startE_in {yn i a b : Nat} (ha : a < i) (hb : b < yn) : ((⟨a, 0, b, 0⟩, ⟨#[]⟩) : PE) ∈ startE yn i 0 := by
  unfold startE
  simp only [List.range_zero, List.map_nil, List.append_nil, List.mem_flatMap, List.mem_range, List.mem_map]
  exact ⟨a, ha, b, hb, rfl⟩
theorem alts_below {w w' : World} {B : Nat} {v : Value} {l : List (List G.El)} (h : AltsR w B v l) (hb : Below w.heap.size w w') : AltsR w' B v l :=
  h.only (Only.of_below (S := fun _ => False) hb fun k h1 h2 => by omega) (fun _ h => h.elim)
theorem start_level {P Q : List (List G.El)} {r : Option (List Nat)} {U : List G.Pos} (ha : G.Ans P Q r) : G.LevelP P Q r U 0 ((startE Q.length P.length 0).map entOf) [] := by
  refine G.LevelP.start ha (fun e he => ?_) (fun a b h1 h2 => ?_)
  · obtain ⟨x, hx, rfl⟩ := List.mem_map.1 he
    obtain ⟨a, b, h1, h2, rfl⟩ := startE_mem hx
    exact ⟨a, b, h1, h2, rfl⟩
  · exact List.mem_map.2 ⟨_, startE_in h1 h2, rfl⟩
theorem below_own2 {B : Nat} {w0 w w' : World} {p : Option Addr} {n c : Nat} {L : List PE} (hB : B ≤ w0.heap.size) (hb : Below B w0 w) (ho : OwnP w B p n c L) (h : Only (fun k => (Value.slice p n c).ownBlock = some k) w w') : Below B w0 w' := below_own hB hb ho h

/-- What Common answers to two patterns. -/
def RComAns (r : Option (List Nat)) (e : Ending) : Prop := ∃ (s : ByteArray) (ok : Bool), e = .returned (.tuple #[.string s, .bool ok, .int .i64 0]) ∧ r = (if ok = true then some (bs s) else none) ∧ (ok = false → s = ⟨#[]⟩)
theorem conv_one (W : World) (b : Nat) (c : Int) (h : W.cell? ⟨b, 0, none⟩ = some (.int .u8 c)) : (convert 88 9 (.slice (some ⟨b, 0, none⟩) 1 1)).run Try.prog W = .ok (.string (strOfNums [c])) W := by
  refine run_convert_bytes_arg (P := Try.prog) W 88 5 Try.underlying88 Try.underlying5 b 0 1 1 [c] rfl (fun i hi => ?_) 9 Try.underlying9
  obtain rfl : i = 0 := by omega
  exact h
attribute [local go_sem] conv_one

set_option maxRecDepth 100000 in
set_option maxHeartbeats 8000000 in
theorem rcommon_good {w : World} {p q : ByteArray} {P Q : List (List G.El)} {r : Option (List Nat)} (hp : G.alts (bs p) = some P) (hq : G.alts (bs q) = some Q) (sp : p.size ≤ 16) (sq : q.size ≤ 16) (hr : G.IsCommon (G.anyM P) (G.anyM Q) r) :
    Calls Try.prog 25 #[.string p, .string q] w fun e w' => RComAns r e ∧ Below w.heap.size w w' := by
  have gP : Hid (G.GoodA P) := G.alts_good hp
  have gQ : Hid (G.GoodA Q) := G.alts_good hq
  have fP := G.alts_fits hp
  have fQ := G.alts_fits hq
  rw [length_bs] at fP fQ
  have hP : Hid (∀ a ∈ P, a.length ≤ 16) := fun a h => Nat.le_trans (fP.2 a h) sp
  have hQ : Hid (∀ a ∈ Q, a.length ≤ 16) := fun a h => Nat.le_trans (fQ.2 a h) sq
  have hans : Hid (G.Ans P Q r) := G.ans_of gP.out gQ.out hr
  have hp1 : P.length ≤ 17 := by omega
  have hq1 : Q.length ≤ 17 := by omega
  have hM0 := G.len_univ P Q 16
  obtain ⟨M, hM⟩ : ∃ M, (G.univ P Q 16).length = M := ⟨_, rfl⟩
  have hM1 : M ≤ 83521 := by
    rw [← hM, hM0]
    have h1 : Q.length * (16 + 1) ≤ 17 * 17 := Nat.mul_le_mul hq1 (by omega)
    have h2 : (16 + 1) * (Q.length * (16 + 1)) ≤ 17 * (17 * 17) := Nat.mul_le_mul (by omega) h1
    exact Nat.mul_le_mul hp1 h2
  have hMh := Lib.hid hM
  clear hM0 hM fP fQ
  have hC1 := fun W => rcheck_any p W (by omega)
  rw [errS_some hp] at hC1
  have hC2 := fun W => rcheck_any q W (by omega)
  rw [errS_some hq] at hC2
  have hC3 := fun W => rparse_good p W hp
  have hC4 := fun W => rparse_good q W hq
  have hC1' := Lib.hid hC1; clear hC1
  have hC2' := Lib.hid hC2; clear hC2
  have hC3' := Lib.hid hC3; clear hC3
  have hC4' := Lib.hid hC4; clear hC4
  clear hp hq hr
  go_enter Try.func25, Try.ntmps25
  go_wp2_with fail
  refine (hC1'.out _).mono ?_
  rintro e v1 ⟨rfl, hb1⟩
  go_wp2_with fail
  refine (hC2'.out _).mono ?_
  rintro e v2 ⟨rfl, hb2⟩
  have k2 := Lib.hid (hb1.trans (hb2.mono hb1.size)); clear hb1 hb2 hC1' hC2'
  go_wp2_with fail
  refine (hC3'.out _).mono ?_
  rintro e v3 ⟨vx, rfl, hb3, hx3, -, -⟩
  have k3 := Lib.hid (k2.out.trans (hb3.mono k2.out.size))
  have hx3' := Lib.hid hx3; clear hx3 hb3 hC3'
  go_wp2_with fail
  refine (hC4'.out _).mono ?_
  rintro e v4 ⟨vy, rfl, hb4, hy4, -, -⟩
  have k4 := Lib.hid (k3.out.trans (hb4.mono k3.out.size))
  have hx4 := alts_below hx3'.out hb4
  clear hx3' hb4 hC4' k2 k3
  obtain ⟨pv, cv, rfl, -⟩ := alts_parts hx4
  obtain ⟨qv, dv, rfl, -⟩ := alts_parts hy4
  obtain ⟨xn, hxn⟩ : ∃ xn, P.length = xn := ⟨_, rfl⟩
  obtain ⟨yn, hyn⟩ : ∃ yn, Q.length = yn := ⟨_, rfl⟩
  rw [hxn] at hx4 hp1 ⊢
  rw [hyn] at hy4 hq1 ⊢
  have hxn' := Lib.hid hxn; clear hxn
  have hyn' := Lib.hid hyn; clear hyn
  generalize v2.heap.size = B1 at *
  generalize v3.heap.size = B2 at *
  have hx := Lib.hid hx4; clear hx4
  have hy := Lib.hid hy4; clear hy4
  go_upto_block 0 with fail
  go_cut [13] (fun s13 wx => ∃ p7 n7 c7, s13 = .slice p7 n7 c7 ∧ n7 ≤ 1000 ∧ Hid (OwnP wx v4.heap.size p7 n7 c7 (startE yn xn 0)) ∧ Hid (Below v4.heap.size v4 wx))
  case first =>
    go_wp2_with fail
    go_loopw [13, 14] (fun s13 s14 wr => ∃ p7 n7 c7, ∃ i : Nat, s13 = .slice p7 n7 c7 ∧ s14 = .int .i64 i ∧ i ≤ xn ∧ Hid (n7 = i * yn) ∧ Hid (OwnP wr v4.heap.size p7 n7 c7 (startE yn i 0)) ∧ Hid (Below v4.heap.size v4 wr)) (fun _ s14 _ => xn - (intOf s14).toNat)
    case atStart => exact ⟨_, _, _, 0, rfl, rfl, by omega, (show 0 = 0 * yn from by omega), (show OwnP v4 v4.heap.size none 0 0 (startE yn 0 0) from own_none _ _), (show Below v4.heap.size v4 v4 from Below.refl _ _)⟩
    case round =>
      obtain ⟨p7, n7, c7, i, rfl, rfl, hi, hn7, ho7, hb7⟩ := hrel
      have hiy : i * yn ≤ 17 * 17 := Nat.mul_le_mul (by omega) hq1
      have hn7b : n7 ≤ 289 := by have := hn7.out; omega
      have ii0 : (0 : Int) ≤ (i : Int) := by omega
      by_cases hix : i < xn
      · have ii : (i : Int) < (xn : Int) := by omega
        go_wp2_with fail
        go_loopw [13, 15] (fun s13 s15 wr => ∃ p7 n7 c7, ∃ j : Nat, s13 = .slice p7 n7 c7 ∧ s15 = .int .i64 j ∧ j ≤ yn ∧ Hid (n7 = i * yn + j) ∧ Hid (OwnP wr v4.heap.size p7 n7 c7 (startE yn i j)) ∧ Hid (Below v4.heap.size v4 wr)) (fun _ s15 _ => yn - (intOf s15).toNat)
        case atStart => exact ⟨_, _, _, 0, rfl, rfl, by omega, (show _ = _ from hn7.out), ho7, hb7⟩
        case round =>
          clear hn7 hn7b ho7 hb7
          obtain ⟨p7, n7, c7, j, rfl, rfl, hj, hn7, ho7, hb7⟩ := hrel
          have hn7b : n7 ≤ 400 := by have := hn7.out; omega
          by_cases hjy : j < yn
          · have jj : (j : Int) < (yn : Int) := by omega
            have hst := startE_more yn i j
            have hst' := Lib.hid hst; clear hst
            go_wp2_with (first | (at_builtin; refine list_app_pairs (by rfl) (.tmp 60) (.tmp 64) v4.heap.size p7 n7 c7 (startE yn i j) _ [(⟨i, 0, j, 0⟩, ⟨#[]⟩)] (by rfl) (by rfl) (ho7.out.alloc _) (by rfl) (blk_pair (za := i) (zi := 0) (zb := j) (zj := 0) (zt := ⟨#[]⟩) (Blk.new wr _ _)) (n7 + 1) (by rfl) (by omega) (by have := hb7.out.size; simp; omega) ?_; intro p8 c8 w8 ho8 hO8) | fail)
            have hb8 := Lib.hid (below_own (Nat.le_refl _) (hb7.out.alloc hb7.out.size _) (ho7.out.alloc _) hO8)
            rw [← hst'.out] at ho8
            have ho8' := Lib.hid ho8
            have hn8 : Hid (n7 + 1 = i * yn + (j + 1)) := (by have := hn7.out; omega : n7 + 1 = i * yn + (j + 1))
            clear ho8 hO8 ho7 hb7 hst' hn7
            go_roundw
            case rel => exact ⟨_, _, _, j + 1, rfl, by go_num, by omega, hn8, ho8', hb8⟩
            case measure => simp [intOf]; omega
          · obtain rfl : j = yn := by omega
            have hrow : Hid (OwnP wr v4.heap.size p7 n7 c7 (startE j (i + 1) 0)) := (startE_row j i).symm ▸ ho7.out
            have hn8 : Hid (n7 = (i + 1) * j) := (by have := hn7.out; rw [Nat.succ_mul]; omega : n7 = (i + 1) * j)
            clear ho7 hn7
            go_wp2_with fail
            go_roundw
            case rel => exact ⟨_, _, _, i + 1, rfl, by go_num, by omega, hn8, hrow, hb7⟩
            case measure => simp [intOf]; omega
      · obtain rfl : i = xn := by omega
        go_wp2_with fail
        go_meet
        case rel => exact ⟨_, _, _, rfl, by omega, ho7, hb7⟩
  case rest =>
    obtain ⟨p7, n7, c7, rfl, hn7b, ho7, hb7⟩ := hcut
    have hlv : Hid (G.LevelP P Q r (G.univ P Q 16) 0 ((startE yn xn 0).map entOf) []) := by
      have := start_level (U := G.univ P Q 16) hans.out
      rw [hxn'.out, hyn'.out] at this
      exact this
    have hpr := Lib.hid (ho7.out.pairs (by omega))
    have hxW : Hid (∀ Y, Below v4.heap.size v4 Y → AltsR Y B1 (.slice pv xn cv) P) := fun Y h => alts_below hx.out h
    have hyW : Hid (∀ Y, Below v4.heap.size v4 Y → AltsR Y B2 (.slice qv yn dv) Q) := fun Y h => alts_below hy.out h
    have hMM : M * M ≤ 83521 * 83521 := Nat.mul_le_mul hM1 hM1
    clear ho7
    generalize wc = w5 at *
    go_upto_region 17 with fail
    go_wp2_with fail
    go_loopg [13, 16] (G.unseen (G.univ P Q 16) []) (fun gk s13 s16 wr => ∃ a n c l sa sn sc ls, ∃ t : Nat, s13 = .slice a n c ∧ s16 = .slice sa sn sc ∧ n ≤ 90000 ∧ Hid (sn ≤ t * M) ∧ Hid (gk = G.unseen (G.univ P Q 16) (ls.map entOf)) ∧ Hid (PrIn wr a n c l) ∧ Hid (OwnP wr v4.heap.size sa sn sc ls) ∧ Hid (G.LevelP P Q r (G.univ P Q 16) t (l.map entOf) (ls.map entOf)) ∧ Hid (Below v4.heap.size v4 wr))
    case atStart => exact ⟨_, _, _, _, _, _, _, [], 0, rfl, rfl, by omega, (show _ ≤ _ from by omega), (show _ = _ from rfl), hpr, (show OwnP w5 v4.heap.size none 0 0 [] from own_none _ _), hlv, hb7⟩
    case round =>
      clear hlv hpr hb7 hn7b
      obtain ⟨a, n, c, l, sa, sn, sc, ls, t, rfl, rfl, hn, hsn, hgk, hpr, hos, hlv, hb⟩ := hrel
      by_cases hn0 : n = 0
      · subst hn0
        have hl0 : l = [] := List.eq_nil_of_length_eq_zero hpr.out.2.1
        subst hl0
        have hr0 : Hid (r = none) := hlv.out.none
        have i0 : ¬ (0 : Int) < 0 := by omega
        go_wp2_with fail
        go_ret3
        exact ⟨⟨_, _, rfl, hr0.out, fun _ => rfl⟩, k4.out.trans (hb.out.mono k4.out.size)⟩
      · have i0 : (0 : Int) < (n : Int) := by omega
        have hcl := Lib.hid (rclosed_any (N := 16) (t := t) hP.out hQ.out (by omega) (by have := hMh.out; omega) (hxW.out _ hb.out) (hyW.out _ hb.out) l a n c hpr.out hlv.out.sound (by omega))
        go_wp2_with fail
        refine hcl.out.mono ?_
        rintro e y1 ⟨⟨a1, n1, c1, l1, rfl, hq1', hn1, hf1, hc1⟩, hby⟩
        rw [hMh.out] at hn1
        have hp1' := Lib.hid hq1'
        have hc1' := Lib.hid hc1
        have hos1 : Hid (OwnP y1 v4.heap.size sa sn sc ls) := ⟨hos.out.1, own_later hos.out.2 hby⟩
        have hdis : Hid (∀ x, a1 = some x → ∀ g, (Value.slice sa sn sc).ownBlock = some g → x.block ≠ g) := fun x hx g hg => by
          have h1 := hf1 x hx
          have h2 := (World.ownsRow.lt hos.out.2 g hg).2
          omega
        have hby1 := Lib.hid (hb.out.trans (hby.mono hb.out.size))
        have hne : Hid (l.map entOf ≠ []) := (fun h => by
          have := hpr.out.2.1
          rw [List.map_eq_nil_iff] at h
          subst h
          simp at this
          omega : l.map entOf ≠ [])
        clear hq1' hc1 hby hcl hf1 hos hpr hb
        go_upto_block 6 with fail
        go_cut [] (fun wx => Hid (∀ e ∈ l1.map entOf, G.endB P Q e.1 = false) ∧ Hid (Below y1.heap.size y1 wx))
        case first =>
          go_wp2_with fail
          go_loopw [17] (fun s17 wr => ∃ k : Nat, s17 = .int .i64 k ∧ k ≤ n1 ∧ Hid (∀ (m : Nat) (x : G.Ent), m < k → (l1.map entOf)[m]? = some x → G.endB P Q x.1 = false) ∧ Hid (Below y1.heap.size y1 wr)) (fun s17 _ => n1 - (intOf s17).toNat)
          case atStart => exact ⟨0, rfl, by omega, (show ∀ (m : Nat) (x : G.Ent), m < 0 → _ from fun m x h => by omega), (show Below y1.heap.size y1 y1 from Below.refl _ _)⟩
          case round =>
            obtain ⟨k, rfl, hk, hno, hbk⟩ := hrel
            have hbk2 := hby1.out.trans (hbk.out.mono hby1.out.size)
            by_cases hkn : k < n1
            · obtain ⟨x, g, o, hxk, rfl, ⟨c0, c1⟩, c2, c3, c4⟩ := hp1'.out.at hbk.out hkn
              have hat : Hid ((l1.map entOf)[k]? = some (entOf x)) := by rw [List.getElem?_map, hxk]; rfl
              have hin : G.InP P Q x.1 := (hc1'.out.sound _ (List.mem_of_getElem? hat.out)).2.1
              obtain ⟨⟨za, zi, zb, zj⟩, zt⟩ := x
              dsimp only at c0 c1 c2 c3 c4 hin
              obtain ⟨g1, pu, cu, rfl, -, g1l, r1, -⟩ := (hxW.out v4 (Below.refl _ _)).at hbk2 (k := za) hin.1
              obtain ⟨g2, qu, du, rfl, -, g2l, s1, -⟩ := (hyW.out v4 (Below.refl _ _)).at hbk2 (k := zb) hin.2.1
              have hend : Hid (G.endB P Q (entOf (⟨za, zi, zb, zj⟩, zt)).1 = (decide (zi = (P.getD za []).length) && decide (zj = (Q.getD zb []).length))) := rfl
              generalize (P.getD za []).length = la at *
              generalize (Q.getD zb []).length = lb at *
              have ik : (k : Int) < (n1 : Int) := by omega
              have ik0 : (0 : Int) ≤ (k : Int) := by omega
              have ia0 : (0 : Int) ≤ (za : Int) := by omega
              have ia1 : (za : Int) < (xn : Int) := by have := hin.1; have := hxn'.out; simp only at *; omega
              have ib0 : (0 : Int) ≤ (zb : Int) := by omega
              have ib1 : (zb : Int) < (yn : Int) := by have := hin.2.1; have := hyn'.out; simp only at *; omega
              clear hxk hin g1l g2l hbk2
              have hnext : Hid (G.endB P Q (entOf (⟨za, zi, zb, zj⟩, zt)).1 = false → ∀ (m : Nat) (x : G.Ent), m < k + 1 → (l1.map entOf)[m]? = some x → G.endB P Q x.1 = false) := fun h m x hm hmx => by
                by_cases hmk : m < k
                · exact hno.out m x hmk hmx
                · have emk : m = k := by omega
                  rw [emk, hat.out] at hmx
                  cases hmx
                  exact h
              by_cases e1 : zi = la
              · by_cases e2 : zj = lb
                · have b1 : ((zi : Int) == (la : Int)) = true := by rw [beq_iff_eq]; omega
                  have b2 : ((zj : Int) == (lb : Int)) = true := by rw [beq_iff_eq]; omega
                  have hfound : r = some (bs zt) := hlv.out.found gP.out hans.out hc1'.out hat.out (by rw [hend.out, decide_eq_true e1, decide_eq_true e2]; rfl) hno.out
                  have hfound' := Lib.hid hfound
                  clear hfound hno hnext hend e1 e2
                  go_wp2_with fail
                  go_quiet (fail)
                  go_wp2_with fail
                  go_ret3
                  exact ⟨⟨zt, true, rfl, hfound'.out, fun h => by cases h⟩, below_drawN (k4.out.trans ((hby1.out.trans (hbk.out.mono hby1.out.size)).mono k4.out.size)) _⟩
                · have b1 : ((zi : Int) == (la : Int)) = true := by rw [beq_iff_eq]; omega
                  have b2 : ((zj : Int) == (lb : Int)) = false := by rw [beq_eq_false_iff_ne]; omega
                  have hno2 := Lib.hid (hnext.out (by rw [hend.out, decide_eq_false e2, Bool.and_false]))
                  clear hno hnext hend e1 e2
                  go_wp2_with fail
                  go_quiet (fail)
                  go_wp2_with fail
                  go_roundw
                  case rel => exact ⟨k + 1, by go_num, by omega, hno2, below_drawN hbk.out _⟩
                  case measure => simp [intOf]; omega
              · have b1 : ((zi : Int) == (la : Int)) = false := by rw [beq_eq_false_iff_ne]; omega
                have hno2 := Lib.hid (hnext.out (by rw [hend.out, decide_eq_false e1, Bool.false_and]))
                clear hno hnext hend e1
                go_wp2_with fail
                go_quiet (fail)
                go_wp2_with fail
                go_roundw
                case rel => exact ⟨k + 1, by go_num, by omega, hno2, below_drawN hbk.out _⟩
                case measure => simp [intOf]; omega
            · obtain rfl : k = n1 := by omega
              have hall : Hid (∀ e ∈ l1.map entOf, G.endB P Q e.1 = false) := fun e he => by
                obtain ⟨m, hm, em⟩ := List.getElem_of_mem he
                exact hno.out m e (by rw [List.length_map, hp1'.out.2.1] at hm; exact hm) (by rw [List.getElem?_eq_getElem hm, em])
              clear hno
              go_wp2_with fail
              go_meet
              case rel => exact ⟨hall, hbk⟩
        case rest =>
          obtain ⟨hall, hby2⟩ := hcut
          have hp2 := Lib.hid (hp1'.out.below hby2.out)
          have hos2 : Hid (OwnP wc v4.heap.size sa sn sc ls) := ⟨hos1.out.1, own_later hos1.out.2 hby2.out⟩
          have hb2 := Lib.hid (hby1.out.trans (hby2.out.mono hby1.out.size))
          have htM : Hid (t ≤ M) := (by have h1 := hlv.out.room; have h2 := hMh.out; omega : t ≤ M)
          have hsnb : sn ≤ 6975757441 := by
            have h1 : t * M ≤ M * M := Nat.mul_le_mul htM.out (Nat.le_refl _)
            have := hsn.out
            omega
          clear hp1' hos1 hby1 hby2
          generalize wc = y2 at *
          go_upto_block 8 with (first | (at_builtin; refine list_app_pairs (by rfl) (.tmp 116) (.tmp 117) v4.heap.size sa sn sc ls _ l1 (by rfl) (by rfl) hos2.out (by rfl) hp2.out.1 (sn + n1) (by rw [hp2.out.2.1]) (by omega) hb2.out.size ?_; intro ta tc y3 ho3 hO3) | fail)
          have hb3 := Lib.hid (below_own (by exact Nat.le_refl _) hb2.out hos2.out hO3)
          have hp3 : Hid (PrIn y3 a1 n1 c1 l1) := ⟨RowAt.same hp2.out.1 hO3.size fun g o n c he => by
            cases he
            by_cases hgl : g < y2.heap.size
            · exact hO3.block g hgl fun h => hdis.out ⟨g, o, none⟩ rfl g h rfl
            · rcases hp2.out.1.2 with ⟨h, _⟩ | ⟨g', o', cap', h, hg, _⟩
              · cases h
              · cases h; exact absurd hg hgl, hp2.out.2⟩
          have ho3' := Lib.hid ho3
          clear hdis hO3 ho3 hp2 hos2 hb2
          go_cut [18] (fun s18 wx => ∃ a4 n4 c4 l4, s18 = .slice a4 n4 c4 ∧ n4 ≤ M ∧ Hid (PrIn wx a4 n4 c4 l4) ∧ Hid (G.NextP P Q t (l1.map entOf) ((ls ++ l1).map entOf) (l4.map entOf)) ∧ Hid (Below y3.heap.size y3 wx))
          case first =>
            go_wp2_with fail
            go_loopw [18, 19] (fun s18 s19 wr => ∃ a4 n4 c4 l4, ∃ k : Nat, s18 = .slice a4 n4 c4 ∧ s19 = .int .i64 k ∧ k ≤ n1 ∧ Hid (PrIn wr a4 n4 c4 l4) ∧ Hid (G.NextTo P Q t (l1.map entOf) ((ls ++ l1).map entOf) k 32 (l4.map entOf)) ∧ Hid (Below y3.heap.size y3 wr)) (fun _ s19 _ => n1 - (intOf s19).toNat)
            case atStart => exact ⟨_, _, _, [], 0, rfl, rfl, by omega, PrIn.nil _, (show G.NextTo P Q t (l1.map entOf) ((ls ++ l1).map entOf) 0 32 [] from G.NextTo.start), (show Below y3.heap.size y3 y3 from Below.refl _ _)⟩
            case round =>
              obtain ⟨a4, n4, c4, l4, k, rfl, rfl, hk, hp4, hn4, hb4⟩ := hrel
              have hlen4 : Hid (n4 ≤ M) := (by have h1 := hn4.out.len hP.out hQ.out; rw [List.length_map, hp4.out.2.1, hMh.out] at h1; exact h1 : n4 ≤ M)
              by_cases hkn : k < n1
              · have ik : (k : Int) < (n1 : Int) := by omega
                go_wp2_with fail
                go_loopw [18, 20] (fun s18 s20 wr => ∃ a4 n4 c4 l4, ∃ c : Nat, s18 = .slice a4 n4 c4 ∧ s20 = .int .u8 c ∧ 32 ≤ c ∧ c ≤ 127 ∧ Hid (PrIn wr a4 n4 c4 l4) ∧ Hid (G.NextTo P Q t (l1.map entOf) ((ls ++ l1).map entOf) k c (l4.map entOf)) ∧ Hid (Below y3.heap.size y3 wr)) (fun _ s20 _ => 127 - (intOf s20).toNat)
                case atStart => exact ⟨_, _, _, l4, 32, rfl, rfl, by omega, by omega, hp4, hn4, hb4⟩
                case round =>
                  clear hp4 hn4 hb4 hlen4
                  obtain ⟨a4, n4, c4, l4, c, rfl, rfl, hc32, hc127, hp4, hn4, hb4⟩ := hrel
                  by_cases hc : c ≤ 126
                  · have icc : (c : Int) ≤ 126 := by omega
                    have hbw := Lib.hid (hb3.out.trans (hb4.out.mono hb3.out.size))
                    obtain ⟨x, g, o, hxk, rfl, ⟨c0, c1⟩, c2, c3, c4⟩ := hp3.out.at (Below.refl _ _) hkn
                    have hg : g < y3.heap.size := by
                      rcases hp3.out.1.2 with ⟨h, _⟩ | ⟨g', o', cap', h, hg, _⟩
                      · cases h
                      · cases h; exact hg
                    have hat : Hid ((l1.map entOf)[k]? = some (entOf x)) := by rw [List.getElem?_map, hxk]; rfl
                    have hse : Hid (G.SoundE P Q t (entOf x)) := hc1'.out.sound _ (List.mem_of_getElem? hat.out)
                    have hin : G.InP P Q x.1 := hse.out.2.1
                    obtain ⟨⟨za, zi, zb, zj⟩, zt⟩ := x
                    have hzt : zt.size ≤ 83521 := by
                      have h1 := hse.out.1
                      have h2 := htM.out
                      simp only [entOf, length_bs] at h1
                      omega
                    dsimp only at c0 c1 c2 c3 c4 hin
                    have hcl : Hid (∀ Y, Below y3.heap.size y3 Y → (Y.cell? ⟨g, o + k * 5, none⟩ = some (.int .i64 za) ∧ Y.cell? ⟨g, o + k * 5 + 1, none⟩ = some (.int .i64 zb)) ∧ Y.cell? ⟨g, o + k * 5 + 2, none⟩ = some (.int .i64 zi) ∧ Y.cell? ⟨g, o + k * 5 + 3, none⟩ = some (.int .i64 zj) ∧ Y.cell? ⟨g, o + k * 5 + 4, none⟩ = some (.string zt)) := fun Y h => by
                      have e : ∀ i, Y.cell? ⟨g, i, none⟩ = y3.cell? ⟨g, i, none⟩ := fun i => World.cell?_of_block (h.block g hg)
                      exact ⟨⟨(e _).trans c0, (e _).trans c1⟩, (e _).trans c2, (e _).trans c3, (e _).trans c4⟩
                    clear c0 c1 c2 c3 c4
                    obtain ⟨⟨c0, c1⟩, c2, c3, c4⟩ := hcl.out wr hb4.out
                    obtain ⟨g1, pu, cu, rfl, -, -, r1, w1⟩ := (hxW.out v4 (Below.refl _ _)).at hbw.out (k := za) hin.1
                    obtain ⟨g2, qu, du, rfl, -, -, s1, w2⟩ := (hyW.out v4 (Below.refl _ _)).at hbw.out (k := zb) hin.2.1
                    have hA1 : (P.getD za []).length ≤ 16 := hP.out _ (G.inP_mem (Q := Q) hse.out.2.1).1
                    have hA2 : (Q.getD zb []).length ≤ 16 := hQ.out _ (G.inP_mem (P := P) hse.out.2.1).2
                    have hi1 := hin.2.2.1
                    have hi2 := hin.2.2.2
                    simp only at hi1 hi2
                    have hS1 : Hid (∀ Y, Below wr.heap.size wr Y → Calls Try.prog 52 #[.slice pu (P.getD za []).length cu, .int .i64 zi, .int .u8 c] Y fun e w' => e = .returned (.tuple #[.int .i64 (G.stepK (P.getD za []) zi c).1, .bool (G.stepK (P.getD za []) zi c).2]) ∧ Below Y.heap.size Y w') := fun Y h => rstep_any zi c (w1.below h) hi1 (by omega) (by omega)
                    have hS2 : Hid (∀ Y, Below wr.heap.size wr Y → Calls Try.prog 52 #[.slice qu (Q.getD zb []).length du, .int .i64 zj, .int .u8 c] Y fun e w' => e = .returned (.tuple #[.int .i64 (G.stepK (Q.getD zb []) zj c).1, .bool (G.stepK (Q.getD zb []) zj c).2]) ∧ Below Y.heap.size Y w') := fun Y h => rstep_any zj c (w2.below h) hi2 (by omega) (by omega)
                    have hgo : Hid (G.goP P Q ⟨za, zi, zb, zj⟩ c = ((G.stepK (P.getD za []) zi c).2 && (G.stepK (Q.getD zb []) zj c).2)) := by
                      unfold G.goP G.prOf
                      rw [G.stepK_head, G.stepK_head]
                      rfl
                    have hnx : Hid ((G.stepK (P.getD za []) zi c).2 = true → (G.stepK (Q.getD zb []) zj c).2 = true → G.nextOf P Q ⟨za, zi, zb, zj⟩ = ⟨za, (G.stepK (P.getD za []) zi c).1, zb, (G.stepK (Q.getD zb []) zj c).1⟩) := fun h1 h2 => by
                      rw [G.stepK_head] at h1 h2
                      rw [G.stepK_next h1, G.stepK_next h2]
                      rfl
                    generalize G.stepK (P.getD za []) zi c = K1 at *
                    generalize G.stepK (Q.getD zb []) zj c = K2 at *
                    obtain ⟨i1, o1⟩ := K1
                    obtain ⟨i2, o2⟩ := K2
                    dsimp only at hS1 hS2 hgo hnx
                    generalize (P.getD za []).length = la at *
                    generalize (Q.getD zb []).length = lb at *
                    have ia0 : (0 : Int) ≤ (za : Int) := by omega
                    have ia1 : (za : Int) < (xn : Int) := by have := hin.1; have := hxn'.out; simp only at *; omega
                    have ib0 : (0 : Int) ≤ (zb : Int) := by omega
                    have ib1 : (zb : Int) < (yn : Int) := by have := hin.2.1; have := hyn'.out; simp only at *; omega
                    have ik0 : (0 : Int) ≤ (k : Int) := by omega
                    clear hxk hin w1 w2 hi1 hi2 hA1 hA2 hg
                    go_wp2_with fail
                    go_quiet (fail)
                    have hbq := Lib.hid (below_drawN (Below.refl wr.heap.size wr) nq)
                    obtain ⟨⟨d0, d1⟩, d2, d3, d4⟩ := hcl.out (wr.drewN nq) (below_drawN hb4.out nq)
                    generalize wr.drewN nq = y4 at *
                    clear c0 c1 c2 c3 c4 r1 s1
                    go_wp2_with fail
                    refine (hS1.out _ hbq.out).mono ?_
                    rintro e y5 ⟨rfl, hb5⟩
                    have hb5' := Lib.hid (hbq.out.trans (hb5.mono hbq.out.size))
                    obtain ⟨⟨e0, e1⟩, e2, e3, e4⟩ := hcl.out y5 (hb4.out.trans (hb5'.out.mono hb4.out.size))
                    clear d0 d1 d2 d3 d4 hbq hb5 hS1
                    go_wp2_with fail
                    refine (hS2.out _ hb5'.out).mono ?_
                    rintro e y6 ⟨rfl, hb6⟩
                    have hb6' := Lib.hid (hb5'.out.trans (hb6.mono hb5'.out.size))
                    obtain ⟨⟨q0, q1⟩, q2, q3, q4⟩ := hcl.out y6 (hb4.out.trans (hb6'.out.mono hb4.out.size))
                    clear e0 e1 e2 e3 e4 hb5' hb6 hS2 q2 q3
                    have hcat : ¬ (9223372036854775807 < zt.size + 1) := by omega
                    have hss : (strOfNums [(c : Int)]).size = 1 := rfl
                    have icb : (0 : Int) ≤ (c : Int) := by omega
                    have icb2 : (c : Int) ≤ 255 := by omega
                    have hy6 := hb4.out.trans (hb6'.out.mono hb4.out.size)
                    obtain ⟨⟨kA0, kA1⟩, -, -, kA4⟩ := hcl.out (y6.alloc (.cells #[.int .u8 c] 5)) (hy6.alloc hy6.size _)
                    obtain ⟨⟨kB0, kB1⟩, -, -, kB4⟩ := hcl.out (y6.alloc (.cells #[.int .i64 0, .int .i64 0, .int .i64 0, .int .i64 0, .string ⟨#[]⟩] 97)) (hy6.alloc hy6.size _)
                    obtain ⟨⟨kC0, kC1⟩, -, -, kC4⟩ := hcl.out ((y6.alloc (.cells #[.int .u8 c] 5)).alloc (.cells #[.int .i64 0, .int .i64 0, .int .i64 0, .int .i64 0, .string ⟨#[]⟩] 97)) ((hy6.alloc hy6.size _).alloc (by have := hy6.size; simp; omega) _)
                    obtain ⟨⟨kD0, kD1⟩, -, -, kD4⟩ := hcl.out ((y6.alloc (.cells #[.int .i64 0, .int .i64 0, .int .i64 0, .int .i64 0, .string ⟨#[]⟩] 97)).alloc (.cells #[.int .u8 c] 5)) ((hy6.alloc hy6.size _).alloc (by have := hy6.size; simp; omega) _)
                    go_upto_region 36 with fail
                    go_cut [27] (fun s27 wx => ∃ z2 : Nat, s27 = .pointer (some ⟨z2, 0, none⟩) ∧ Hid (Blk wx z2 97 #[.int .i64 za, .int .i64 zb, .int .i64 i1, .int .i64 i2, .string (zt ++ strOfNums [(c : Int)])]) ∧ Hid (Below y6.heap.size y6 wx))
                    case first =>
                      go_region
                      all_goals go_wp2_with fail
                      all_goals go_meet
                      all_goals first
                        | exact ⟨_, rfl, (show Blk _ _ _ _ from (Blk.new_ _ _ _ (by simp)).drew), (show Below _ _ _ from (((Below.refl _ _).alloc (Nat.le_refl _) _).alloc (by simp) _).drew)⟩
                        | exact ⟨_, rfl, (show Blk _ _ _ _ from ((Blk.new _ _ _).alloc _).drew), (show Below _ _ _ from (((Below.refl _ _).alloc (Nat.le_refl _) _).alloc (by simp) _).drew)⟩
                    case rest =>
                      obtain ⟨z2, rfl, hz2, hb7⟩ := hcut
                      clear kA0 kA1 kA4 kB0 kB1 kB4 kC0 kC1 kC4 kD0 kD1 kD4 q0 q1 q4 hy6 hss hcat
                      have hb7' := Lib.hid (hb6'.out.trans (hb7.out.mono hb6'.out.size))
                      have hby7 := Lib.hid (hb4.out.trans (hb7'.out.mono hb4.out.size))
                      have hp7 := Lib.hid (hp4.out.below hb7'.out)
                      clear hb6' hb7
                      generalize wc = y7 at *
                      have htext : Hid (bs (zt ++ strOfNums [(c : Int)]) = bs zt ++ [c]) := by
                        have h1 : bs (strOfNums ([c].map fun c : Nat => (c : Int))) = [c] := bs_nums (fun d hd => by simp at hd; omega)
                        have h2 : ∀ a b : ByteArray, bs (a ++ b) = bs a ++ bs b := fun a b => by simp [bs]
                        rw [h2]
                        exact congrArg _ h1
                      have hno : Hid ((G.goP P Q ⟨za, zi, zb, zj⟩ c = true → G.hasP ((ls ++ l1).map entOf) (G.nextOf P Q ⟨za, zi, zb, zj⟩) = false → False) → G.NextTo P Q t (l1.map entOf) ((ls ++ l1).map entOf) k (c + 1) (l4.map entOf)) := fun h => hn4.out.skip hat.out h
                      have icw : IntKind.u8.wrap ((c : Int) + 1) = (c : Int) + 1 := IntWalk.u8_in _ (by omega)
                      cases o1 with
                      | false =>
                        have hn5 := Lib.hid (hno.out (fun h => by rw [hgo.out] at h; cases h))
                        clear hno hn4
                        go_wp2_with fail
                        go_roundw
                        case rel => exact ⟨_, _, _, l4, c + 1, rfl, by go_num, by omega, by omega, hp7, hn5, hby7⟩
                        case measure => simp [intOf]; omega
                      | true =>
                        cases o2 with
                        | false =>
                          have hn5 := Lib.hid (hno.out (fun h => by rw [hgo.out] at h; cases h))
                          clear hno hn4
                          go_wp2_with fail
                          go_roundw
                          case rel => exact ⟨_, _, _, l4, c + 1, rfl, by go_num, by omega, by omega, hp7, hn5, hby7⟩
                          case measure => simp [intOf]; omega
                        | true =>
                          have hnx2 : Hid (G.nextOf P Q ⟨za, zi, zb, zj⟩ = ⟨za, i1, zb, i2⟩) := hnx.out rfl rfl
                          have hseenP : PairsAt y7 (.slice ta (sn + n1) tc) (ls ++ l1) := ((ho3'.out.pairs (by omega)).below hby7.out).1
                          have hHas := Lib.hid (rhas_any (ls ++ l1) _ (⟨za, i1, zb, i2⟩, zt ++ strOfNums [(c : Int)]) y7 hseenP)
                          obtain ⟨T, hT⟩ : ∃ T, G.hasP ((ls ++ l1).map entOf) ⟨za, i1, zb, i2⟩ = T := ⟨_, rfl⟩
                          dsimp only at hHas
                          rw [hT] at hHas
                          have hT' := Lib.hid hT; clear hT hseenP
                          have hzc := hz2.out
                          have x0 := hzc.cell 0
                          have x1 := hzc.cell 1
                          have x2 := hzc.cell 2
                          have x3 := hzc.cell 3
                          have x4 := hzc.cell 4
                          simp only [List.getElem?_toArray, List.getElem?_cons_zero, List.getElem?_cons_succ] at x0 x1 x2 x3 x4
                          clear hzc
                          go_wp2_with fail
                          refine hHas.out.mono ?_
                          rintro e y8 ⟨rfl, hb8⟩
                          have hz3 := Lib.hid (hz2.out.below hb8 hz2.out.lt)
                          have hp8 := Lib.hid (hp7.out.below hb8)
                          have hby8 := Lib.hid (hby7.out.trans (hb8.mono hby7.out.size))
                          clear hb8 hHas x0 x1 x2 x3 x4 hz2 hp7 hby7
                          cases T with
                          | true =>
                            have hn5 := Lib.hid (hno.out (fun _ h => by rw [hnx2.out, hT'.out] at h; cases h))
                            clear hno hn4
                            go_wp2_with fail
                            go_roundw
                            case rel => exact ⟨_, _, _, l4, c + 1, rfl, by go_num, by omega, by omega, hp8, hn5, hby8⟩
                            case measure => simp [intOf]; omega
                          | false =>
                            have hlen4 : n4 ≤ M := by
                              have h1 := hn4.out.len hP.out hQ.out
                              rw [List.length_map, hp4.out.2.1, hMh.out] at h1
                              exact h1
                            have hput := Lib.hid (rput_any l4 a4 n4 c4 (⟨za, i1, zb, i2⟩, zt ++ strOfNums [(c : Int)]) y8 hp8.out (by omega))
                            dsimp only at hput
                            have hpr : G.pr c = true := by
                              simp only [G.pr, Bool.and_eq_true, decide_eq_true_eq]
                              omega
                            have hnn : G.nextOf P Q ⟨za, zi, zb, zj⟩ ≠ ⟨za, zi, zb, zj⟩ := fun h => by
                              have h1 : G.hasP ((ls ++ l1).map entOf) ⟨za, zi, zb, zj⟩ = true := G.hasP_iff.2 ⟨entOf (⟨za, zi, zb, zj⟩, zt), by rw [List.map_append]; exact List.mem_append_right _ (List.mem_of_getElem? hat.out), rfl⟩
                              rw [← h, hnx2.out, hT'.out] at h1
                              cases h1
                            have hgoT : G.goP P Q ⟨za, zi, zb, zj⟩ c = true := hgo.out.trans rfl
                            have hsz := G.sound_step gP.out gQ.out hse.out hpr hgoT hnn
                            have hnp := hn4.out.put hat.out hsz (by
                              show G.hasP _ (G.nextOf P Q ⟨za, zi, zb, zj⟩) = false
                              rw [hnx2.out]; exact hT'.out)
                            have hnp' := Lib.hid hnp
                            have hent : Hid (entOf (⟨za, i1, zb, i2⟩, zt ++ strOfNums [(c : Int)]) = (G.nextOf P Q (entOf (⟨za, zi, zb, zj⟩, zt)).1, (entOf (⟨za, zi, zb, zj⟩, zt)).2 ++ [c])) := by
                              have e1 : G.nextOf P Q (entOf (⟨za, zi, zb, zj⟩, zt)).1 = ⟨za, i1, zb, i2⟩ := hnx2.out
                              rw [e1]
                              exact congrArg (Prod.mk _) htext.out
                            have hzc := hz3.out
                            have x0 := hzc.cell 0
                            have x1 := hzc.cell 1
                            have x2 := hzc.cell 2
                            have x3 := hzc.cell 3
                            have x4 := hzc.cell 4
                            simp only [List.getElem?_toArray, List.getElem?_cons_zero, List.getElem?_cons_succ] at x0 x1 x2 x3 x4
                            clear hzc hnp hsz hgoT hnn hpr hlen4 hno hn4
                            go_wp2_with fail
                            refine hput.out.mono ?_
                            rintro e y9 ⟨⟨a5, n5, c5, l5, rfl, hp9, -, -, hm9⟩, hb9⟩
                            have hp9' := Lib.hid hp9
                            have hby9 := Lib.hid (hby8.out.trans (hb9.mono hby8.out.size))
                            have hn5 : Hid (G.NextTo P Q t (l1.map entOf) ((ls ++ l1).map entOf) k (c + 1) (l5.map entOf)) := by
                              have h1 := hnp'.out
                              rw [← hent.out, ← hm9] at h1
                              exact h1
                            clear hp9 hb9 hm9 hput x0 x1 x2 x3 x4 hz3 hp8 hby8
                            go_wp2_with fail
                            go_roundw
                            case rel => exact ⟨_, _, _, l5, c + 1, rfl, by go_num, by omega, by omega, hp9', hn5, hby9⟩
                            case measure => simp [intOf]; omega
                  · obtain rfl : c = 127 := by omega
                    have icc : ¬ (127 : Int) ≤ 126 := by omega
                    have hn5 := Lib.hid hn4.out.row
                    clear hn4
                    go_wp2_with fail
                    go_roundw
                    case rel => exact ⟨_, _, _, l4, k + 1, rfl, by go_num, by omega, hp4, hn5, hb4⟩
                    case measure => simp [intOf]; omega
              · obtain rfl : k = n1 := by omega
                have hw : Hid (G.NextP P Q t (l1.map entOf) ((ls ++ l1).map entOf) (l4.map entOf)) := by
                  have h1 := hn4.out
                  rw [← hp3.out.2.1] at h1
                  have h2 : l1.length = (l1.map entOf).length := by rw [List.length_map]
                  rw [h2] at h1
                  exact h1.whole
                clear hn4
                go_wp2_with fail
                go_meet
                case rel => exact ⟨_, _, _, l4, rfl, hlen4.out, hp4, hw, hb4⟩
          case rest =>
            obtain ⟨a4, n4, c4, l4, rfl, hn4, hp4, hw, hb4⟩ := hcut
            have happ : (ls ++ l1).map entOf = ls.map entOf ++ l1.map entOf := List.map_append
            obtain ⟨hl2, hlt⟩ := hlv.out.next gP.out gQ.out hP.out hQ.out hans.out hne.out hc1'.out hall.out (by rw [← happ]; exact hw.out)
            rw [← happ] at hl2 hlt
            have hl2' := Lib.hid hl2
            have hlt' := Lib.hid hlt
            have hb5 := Lib.hid (hb3.out.trans (hb4.out.mono hb3.out.size))
            have ho5 : Hid (OwnP wc v4.heap.size ta (sn + n1) tc (ls ++ l1)) := ⟨ho3'.out.1, own_later ho3'.out.2 hb4.out⟩
            have hsn2 : Hid (sn + n1 ≤ (t + 1) * M) := (by have := hsn.out; rw [Nat.succ_mul]; omega : sn + n1 ≤ (t + 1) * M)
            have hgk2 := hgk.out
            clear hl2 hlt happ hw hlv hc1' hall hne hsn
            go_wp2_with fail
            go_roundg (G.unseen (G.univ P Q 16) ((ls ++ l1).map entOf))
            case measure => rw [hgk2]; exact hlt'.out
            case rel => exact ⟨_, _, _, l4, _, _, _, ls ++ l1, t + 1, rfl, rfl, by omega, hsn2, (show _ = _ from rfl), hp4, ho5, hl2', hb5⟩

end Go.Proofs.Ytfihccfjboopiaa
