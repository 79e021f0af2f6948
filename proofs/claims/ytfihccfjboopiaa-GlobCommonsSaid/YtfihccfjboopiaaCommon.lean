/-
  THE WALK of glob.Common.
-/
import Derived.Test.YtfihccfjboopiaaComErr
namespace Go.Proofs.Ytfihccfjboopiaa
open Go.RowKit Go.Maps

/-- What holds while the pairs are gathered. -/
def OutAt (P Q : List (List G.El)) (mb : Nat) (w3 : World) (i j : Nat) (s11 s12 : Value) (wr : World) : Prop :=
  ∃ (xs : List G.Pos) (best : Int) (K : G.Pos → Bool), s12 = .int .i64 best ∧ Poss wr w3.heap.size s11 xs ∧ BegIs P Q i j xs ∧ BestIs P Q xs best ∧ best ≤ 512 ∧ Only (fun k => k = mb) w3 wr ∧ Costs wr mb P Q K

set_option maxRecDepth 100000 in
set_option maxHeartbeats 4000000 in
theorem common_ok (p q : ByteArray) (w : World) (hp : p.size ≤ 1000000000000) (hq : q.size ≤ 1000000000000) {P Q : List (List G.El)} (h1 : G.alts (bs p) = some P) (h2 : G.alts (bs q) = some Q) :
    Calls Try.prog 24 #[.string p, .string q] w fun e w' => ∃ (s : ByteArray) (ok : Bool), e = .returned (.tuple #[.string s, .bool ok, .int .i64 0]) ∧ Below w.heap.size w w' ∧ (ok = false → bs s = []) ∧ s.size ≤ 512 ∧ G.IsCommon (G.anyM P) (G.anyM Q) (if ok then some (bs s) else none) := by
  obtain ⟨i0, hi0, hz0, hz1, hz2⟩ := info_parts info_pair
  obtain ⟨j0, hj0, hy0, hy1, hy2⟩ := info_parts info_u8
  have hmm := @run_makeMap Try.prog
  have gP := G.alts_good h1
  have gQ := G.alts_good h2
  have hP := parse_good p w hp h1
  have hQ := fun w1 => parse_good q w1 hq h2
  have hP' := Lib.hid hP; clear hP h1
  have hQ' := Lib.hid hQ; clear hQ h2
  have gP' := Lib.hid gP; clear gP
  have gQ' := Lib.hid gQ; clear gQ
  go_enter Try.func24, Try.ntmps24
  go_wp2_with fail
  refine hP'.out.mono ?_
  rintro e w1 ⟨vp, rfl, hb1, ha1, hl1, he1⟩
  have ha1' := Lib.hid ha1; clear ha1
  have hb1' := Lib.hid hb1; clear hb1
  have he1' := Lib.hid he1; clear he1
  go_wp2_with fail
  refine (hQ'.out w1).mono ?_
  rintro e w2 ⟨vq, rfl, hb2, ha2, hl2, he2⟩
  have hf : Few P Q := ⟨hl1, hl2, he1'.out, he2⟩
  have hbw : Below w.heap.size w w2 := hb1'.out.trans (hb2.mono hb1'.out.size)
  have ap : Alts w2 w.heap.size vp P := ha1'.out.below hb2
  have aq : Alts w2 w.heap.size vq Q := alts_mono ha2 hb1'.out.size
  have hf' := Lib.hid hf; clear hf he2
  have hbw' := Lib.hid hbw; clear hbw hb2
  have ap' := Lib.hid ap; clear ap
  have aq' := Lib.hid aq; clear aq
  clear ha1' ha2 hb1' he1' hQ' hP'
  obtain ⟨pp, cp, rfl⟩ := ap'.out.len
  obtain ⟨pq, cq, rfl⟩ := aq'.out.len
  have hsch := Sch.start w2 ap'.out aq'.out
  have hcst := (Costs.start w2 P Q).heap (Below.heap_alloc _ (.cells #[.slice pp P.length cp, .slice pq Q.length cq, .map (some w2.heap.size)] 81) _ (by simp))
  have hbw3 : Below w.heap.size w ((w2.alloc (.map #[] 0)).alloc (.cells #[.slice pp P.length cp, .slice pq Q.length cq, .map (some w2.heap.size)] 81)) := hbw'.out.trans (((Below.refl _ _).alloc (by have := hbw'.out.size; exact this) _).alloc (by have := hbw'.out.size; simp; omega) _)
  have hsz3 : ((w2.alloc (.map #[] 0)).alloc (.cells #[.slice pp P.length cp, .slice pq Q.length cq, .map (some w2.heap.size)] 81)).heap.size = w2.heap.size + 2 := by simp
  have hsch' := Lib.hid hsch; clear hsch
  have hcst' := Lib.hid hcst; clear hcst
  have hbw3' := Lib.hid hbw3; clear hbw3
  have hmb0 := hbw'.out.size
  clear hbw' ap' aq'
  go_upto_region 9 with fail
  generalize ((w2.alloc (.map #[] 0)).alloc (.cells #[.slice pp P.length cp, .slice pq Q.length cq, .map (some w2.heap.size)] 81)) = w3 at *
  generalize w2.heap.size = mb at *
  clear w1 w2
  have h0 : OutAt P Q mb w3 0 0 (.slice none 0 0) (.int .i64 (-1)) w3 := ⟨[], -1, _, rfl, World.ownsRow_nil _ _ _ _, BegIs.start P Q, .inl ⟨rfl, fun x hx => by cases hx⟩, by omega, Only.refl _ _, hcst'.out⟩
  have h0' := Lib.hid h0; clear h0
  go_wp2_with fail
  go_loopw [11, 12, 44] (fun s11 s12 s44 wr => ∃ i : Nat, i ≤ P.length ∧ s44 = .int .i64 i ∧ OutAt P Q mb w3 i 0 s11 s12 wr) (fun _ _ s44 _ => P.length - (intOf s44).toNat)
  case atStart => exact ⟨0, by omega, rfl, h0'.out⟩
  case round =>
    obtain ⟨i, hi, rfl, ho⟩ := hrel
    clear h0'
    by_cases hlt : i < P.length
    · have ho' := Lib.hid ho; clear ho
      obtain ⟨best0, hs12⟩ : ∃ z, u12 = .int .i64 z := by
        obtain ⟨_, best, _, h, _⟩ := ho'.out
        exact ⟨best, h⟩
      go_wp2_with fail
      go_loopw [11, 12, 49] (fun s11 s12 s49 wr => ∃ j : Nat, j ≤ Q.length ∧ s49 = .int .i64 j ∧ OutAt P Q mb w3 i j s11 s12 wr) (fun _ _ s49 _ => Q.length - (intOf s49).toNat)
      case atStart => exact ⟨0, by omega, rfl, ho'.out⟩
      case round =>
        obtain ⟨j, hj, rfl, xs, best, K, rfl, r1, r2, r3, r4, r5, r6⟩ := hrel
        clear ho'
        by_cases hjl : j < Q.length
        · have hxl : xs.length ≤ 100000 := by
            have e := r2.1
            have : i * Q.length ≤ 257 * 257 := Nat.mul_le_mul (by omega) hl2
            omega
          have h42 : xs.length ≤ 4362470401 := by omega
          have hge := r3.ge
          have hin : G.InP P Q ⟨i, 0, j, 0⟩ := ⟨hlt, hjl, Nat.zero_le _, Nat.zero_le _⟩
          obtain ⟨p0, cap, hv, _⟩ := poss_form r1
          subst hv
          have hmbl := r6.lt
          have hw3 := r5.size
          have hb2' := r2.more hjl
          have hb3' := r3.more ⟨i, 0, j, 0⟩
          have hcb := hf'.out.cost ⟨i, 0, j, 0⟩
          have r1' := Lib.hid r1; clear r1
          have r5' := Lib.hid r5; clear r5
          have r6' := Lib.hid r6; clear r6 r2 r3
          have hb2'' := Lib.hid hb2'; clear hb2'
          have hb3'' := Lib.hid hb3'; clear hb3'
          have hin' := Lib.hid hin; clear hin
          have hrow : ∀ i, Value.ownBlock _ = some i → w3.heap.size ≤ i ∧ i < wr.heap.size := fun i hi => World.ownsRow.lt r1'.out i hi
          have hrow' := Lib.hid hrow; clear hrow
          have o1 := World.ownsRow.alloc r1'.out (.cells #[.int .i64 i, .int .i64 0, .int .i64 j, .int .i64 0] 86)
          have o1' := Lib.hid o1; clear o1
          have s1 : wr.heap.size < (wr.alloc (.cells #[.int .i64 i, .int .i64 0, .int .i64 j, .int .i64 0] 86)).heap.size := by simp
          have bx0 : Blk (wr.alloc (.cells #[.int .i64 i, .int .i64 0, .int .i64 j, .int .i64 0] 86)) wr.heap.size 86 #[.int .i64 i, .int .i64 0, .int .i64 j, .int .i64 0] := Blk.new wr _ _
          have on0 : Only (fun k => k = mb) w3 (wr.alloc (.cells #[.int .i64 i, .int .i64 0, .int .i64 j, .int .i64 0] 86)) := r5'.out.alloc _
          have cs0 : Costs (wr.alloc (.cells #[.int .i64 i, .int .i64 0, .int .i64 j, .int .i64 0] 86)) mb P Q K := r6'.out.heap (Below.heap_alloc wr (.cells #[.int .i64 i, .int .i64 0, .int .i64 j, .int .i64 0] 86) mb r6'.out.lt)
          have bx0' := Lib.hid bx0; clear bx0
          have on0' := Lib.hid on0; clear on0
          have cs0' := Lib.hid cs0; clear cs0 r5' r6' r1' hmm
          go_upto_region 17 with fail
          generalize (wr.alloc (.cells #[.int .i64 i, .int .i64 0, .int .i64 j, .int .i64 0] 86)) = W1 at *
          have k0 := (bx0'.out.cell 0).trans rfl
          have k1 := (bx0'.out.cell 1).trans rfl
          have k2 := (bx0'.out.cell 2).trans rfl
          have k3 := (bx0'.out.cell 3).trans rfl
          go_wp2_with (first
            | (at_builtin
               refine wpList_append_lies _ rfl (.tmp 57) (.tmp 59) 82 rfl w3.heap.size 86 i0 _ 4 32 Try.underlying82 hi0 hz0 hz1 hz2 rfl (by omega) _ xs.length (xs.flatMap posL) rfl (World.ownsRow.alloc o1'.out _) ⟨W1.heap.size, 0, none⟩ 1 1 (posL ⟨i, 0, j, 0⟩) rfl rfl (pos_new W1 ⟨i, 0, j, 0⟩) (posL_one ⟨i, 0, j, 0⟩) (by omega) (by unfold maxLen; omega) (by omega) (by simp; omega) (W1.heap.size + 1) (by simp) ?_
               intro ga capa w6 own6 grow6 lies6 lt6
               have o6 := only_grown grow6
               have bx6 := (bx0'.out.alloc (.cells #[.int .i64 i, .int .i64 0, .int .i64 j, .int .i64 0] 86)).only o6 (fun e => by have := hrow'.out _ e; omega)
               have on6 : Only (fun k => k = mb) w3 w6 := (on0'.out.alloc (.cells #[.int .i64 i, .int .i64 0, .int .i64 j, .int .i64 0] 86)).step o6 fun i hi => .inr (hrow'.out i hi).1
               have cs6 := (cs0'.out.heap (Below.heap_alloc W1 (.cells #[.int .i64 i, .int .i64 0, .int .i64 j, .int .i64 0] 86) mb cs0'.out.lt)).only o6 (fun e => by have := hrow'.out _ e; omega)
               have k0 := (bx6.cell 0).trans rfl
               have k1 := (bx6.cell 1).trans rfl
               have k2 := (bx6.cell 2).trans rfl
               have k3 := (bx6.cell 3).trans rfl
               have own6' := Lib.hid own6; clear own6
               have on6' := Lib.hid on6; clear on6
               have cs6' := Lib.hid cs6; clear cs6 lies6 grow6 o6 bx6)
            | fail)
          have hcall : Calls Try.prog 46 #[.pointer (some ⟨mb + 1, 0, none⟩), .agg #[.int .i64 i, .int .i64 0, .int .i64 j, .int .i64 0]] w6 (CostPost P Q mb K ⟨i, 0, j, 0⟩ w6) := cost_any P Q w.heap.size (mb + 1) mb _ _ hf'.out _ ⟨i, 0, j, 0⟩ K w6 (Nat.le_refl _) hin'.out (hsch'.out.only hcst'.out.isMap on6'.out) cs6'.out
          refine hcall.mono ?_
          clear hcall
          rintro e w7 ⟨rfl, q1, K2, q3, _⟩
          have own7 := poss_map (by unfold Poss; rw [List.length_append, List.length_singleton, ← flat_snoc]; exact own6'.out : Poss w6 w3.heap.size (.slice (some ⟨ga, 0, none⟩) (xs.length + 1) capa) (xs ++ [⟨i, 0, j, 0⟩])) cs6'.out.isMap q1
          have on7 := on6'.out.trans q1
          have own7' := Lib.hid own7; clear own7
          have on7' := Lib.hid on7; clear on7
          have q3' := Lib.hid q3; clear q3 own6' on6' cs6' q1
          generalize G.toI (G.cOf P Q ⟨i, 0, j, 0⟩) = cv at *
          have hfin : ∀ best2 : Int, G.lessI best cv = best2 → ∃ j2 : Nat, j2 ≤ Q.length ∧ Value.int .i64 ((j : Int) + 1) = .int .i64 j2 ∧ OutAt P Q mb w3 i j2 (.slice (some ⟨ga, 0, none⟩) (xs.length + 1) capa) (.int .i64 best2) w7 := fun best2 he => ⟨j + 1, by omega, by go_num, _, best2, K2, rfl, own7'.out, hb2''.out, by rw [← he]; exact hb3''.out, by rw [← he]; unfold G.lessI; split <;> omega, on7'.out, q3'.out⟩
          have hfin' := Lib.hid hfin; clear hfin own7' on7' q3' hb2'' hb3''
          by_cases c1 : 0 ≤ cv
          · by_cases c2 : best < 0
            · have he : G.lessI best cv = cv := by unfold G.lessI; rw [if_pos ⟨c1, .inl c2⟩]
              have he' := Lib.hid he; clear he
              go_wp2_with fail
              go_roundw
              case rel => exact hfin'.out _ he'.out
              case measure => simp [intOf]; omega
            · by_cases c3 : cv < best
              · have he : G.lessI best cv = cv := by unfold G.lessI; rw [if_pos ⟨c1, .inr c3⟩]
                have he' := Lib.hid he; clear he
                go_wp2_with fail
                go_roundw
                case rel => exact hfin'.out _ he'.out
                case measure => simp [intOf]; omega
              · have he : G.lessI best cv = best := by unfold G.lessI; rw [if_neg (by omega)]
                have he' := Lib.hid he; clear he
                go_wp2_with fail
                go_roundw
                case rel => exact hfin'.out _ he'.out
                case measure => simp [intOf]; omega
          · have he : G.lessI best cv = best := by unfold G.lessI; rw [if_neg (by omega)]
            have he' := Lib.hid he; clear he
            go_wp2_with fail
            go_roundw
            case rel => exact hfin'.out _ he'.out
            case measure => simp [intOf]; omega
        · obtain rfl : j = Q.length := by omega
          have hrow2 := r2.row
          have hout : OutAt P Q mb w3 (i + 1) 0 u11 (.int .i64 best) wr := ⟨xs, best, K, rfl, r1, hrow2, r3, r4, r5, r6⟩
          have hout' := Lib.hid hout; clear hout r1 r2 r3 r5 r6 hrow2
          go_wp2_with fail
          go_roundw
          case rel => exact ⟨i + 1, by omega, by go_num, hout'.out⟩
          case measure => simp [intOf]; omega
    · obtain rfl : i = P.length := by omega
      obtain ⟨xs, best, K, rfl, r1, r2, r3, r4, r5, r6⟩ := ho
      obtain ⟨hall, hpr⟩ := r2.all
      have hxl : xs.length ≤ 100000 := by
        have e := r2.1
        have : P.length * Q.length ≤ 257 * 257 := Nat.mul_le_mul hl1 hl2
        omega
      have hmany := manyN_eq
      clear r2
      rcases r3 with ⟨rfl, hnone⟩ | ⟨n, rfl, ⟨x0, hx0, hcx⟩, hlow⟩
      · have hcom : G.IsCommon (G.anyM P) (G.anyM Q) none := G.common_none gP'.out gQ'.out fun z hz => by
          obtain ⟨x, hx, rfl⟩ := List.mem_map.1 ((hpr z).2 hz)
          exact hnone x hx
        have hb : Below w.heap.size w wr := hbw3'.out.trans (r5.below (fun k hk => by omega) (by omega))
        have hcom' := Lib.hid hcom; clear hcom
        have hb' := Lib.hid hb; clear hb r1 r5 r6 hall hpr hnone
        go_wp2_with fail
        go_ret3
        exact ⟨⟨#[]⟩, false, rfl, hb'.out, fun _ => rfl, by decide, hcom'.out⟩
      · have hat0 : G.At (xs.map (G.prOf P Q)) n [] (xs.map (G.prOf P Q)) n := G.At.start (fun z hz => by
            have h := G.mem_pairs.1 ((hpr z).1 hz)
            exact ⟨gP'.out _ h.1, gQ'.out _ h.2⟩) ⟨_, List.mem_map.2 ⟨x0, hx0, rfl⟩, hcx⟩ (fun z hz k hk => by
            obtain ⟨x, hx, rfl⟩ := List.mem_map.1 hz
            exact hlow x hx k hk)
        have hbest : ∀ z, z ∈ G.pairs P Q → ∀ k, G.costP z = some k → n ≤ k := fun z hz k hk => by
          obtain ⟨x, hx, rfl⟩ := List.mem_map.1 ((hpr z).2 hz)
          exact hlow x hx k hk
        have h0 : TextAt P Q mb n w3 n u11 (.slice none 0 0) wr := ⟨[], xs, K, r1, hall, by omega, World.ownsRow_nil _ _ _ _, fun c hc => (by cases hc), at_congr hat0 hpr, r5, r6⟩
        have h0' := Lib.hid h0; clear h0 r1 r5 r6 hall hpr hat0 hlow hcx hx0
        have hbest' := Lib.hid hbest; clear hbest
        go_wp2_with fail
        go_loopw [11, 17, 18] (fun s11 s17 s18 wr => ∃ m : Nat, m ≤ n ∧ s18 = .int .i64 m ∧ TextAt P Q mb n w3 m s11 s17 wr) (fun _ _ s18 _ => (intOf s18).toNat)
        case atStart => exact ⟨n, by omega, rfl, h0'.out⟩
        case round =>
          obtain ⟨m, hm, rfl, ht⟩ := hrel
          clear h0'
          rcases Nat.eq_zero_or_pos m with rfl | hm1
          · obtain ⟨text, ys, K, r1, r2, r3, r4, r5, r6, r7, r8⟩ := ht
            have hcom : G.IsCommon (G.anyM P) (G.anyM Q) (some text) := G.common_some gP'.out gQ'.out hbest'.out r6
            have hb : Below w.heap.size w wr := hbw3'.out.trans (r7.below (fun k hk => by omega) (by omega))
            have hcv := r4.conv
            have hbs : bs (strOfNums (text.map fun c : Nat => (c : Int))) = text := bs_nums fun c hc => by have := r5 c hc; omega
            generalize strOfNums (text.map fun c : Nat => (c : Int)) = st at *
            have hsz : st.size ≤ 512 := by rw [← length_bs, hbs]; have := r6.len; omega
            rw [← hbs] at hcom
            have hcom' := Lib.hid hcom; clear hcom
            have hb' := Lib.hid hb; clear hb r1 r2 r3 r4 r5 r6 r7 r8 hbs
            go_wp2_with fail
            go_ret3
            exact ⟨st, true, rfl, hb'.out, fun h => (by cases h), hsz, hcom'.out⟩
          · obtain ⟨text, ys, K, r1, r2, r3, r4, r5, r6, r7, r8⟩ := ht
            obtain ⟨m1, hm2⟩ : ∃ m1, m = m1 + 1 := ⟨m - 1, by omega⟩
            have hi1 : (0 : Int) < (m : Int) := by omega
            have hm2' := Lib.hid hm2; clear hm2
            have hc1 := spread_any P Q w.heap.size (mb + 1) mb w3.heap.size m _ _ _ hf'.out ys K wr (hsch'.out.only hcst'.out.isMap r7) r8 r1 r7.size r2 r3 (by omega)
            obtain ⟨pt, ct, htx⟩ := r4.form
            subst htx
            have htl : text.length ≤ 512 := by have := r6.len; omega
            have r7' := Lib.hid r7; clear r7
            have r1' := Lib.hid r1; clear r1
            have r4' := Lib.hid r4; clear r4
            have r5' := Lib.hid r5; clear r5
            have r6' := Lib.hid r6; clear r6
            have isM := r8.isMap
            have isM' := Lib.hid isM; clear isM r8 r2 r3
            have hwr := r7'.out.size
            have hc1' := Lib.hid hc1; clear hc1
            go_wp2_with fail
            refine hc1'.out.mono ?_
            clear hc1'
            rintro e w4 ⟨v, zs, K4, rfl, p1, p2, p3, p4⟩
            have o4 : Only (fun k => k = mb) w3 w4 := r7'.out.step p2 fun k hk => by
              rcases hk with rfl | hk
              · exact .inl rfl
              · exact .inr (World.ownsRow.lt r1'.out k hk).1
            have t4 : TextRow w4 w3.heap.size (.slice pt text.length ct) text := own_only r4'.out p2 fun g hg hk => by
              rcases hk with rfl | hk
              · exact own_ne_map r4'.out isM'.out hg
              · exact own_ne r4'.out r1'.out (by decide) g hg hk
            have hc2 : Calls Try.prog 47 #[.pointer (some ⟨mb + 1, 0, none⟩), v, .int .i64 (m : Int)] w4 (LeastPost P Q mb m1 zs w4) := by
              have e : (m : Int) = (m1 : Int) + 1 := by have := hm2'.out; omega
              rw [e]
              exact least_any P Q w.heap.size (mb + 1) mb wr.heap.size m1 _ _ v hf'.out zs K4 w4 (hsch'.out.only hcst'.out.isMap o4) p3 p1 p4.in_ p4.len (by have := hm2'.out; omega)
            have hw4 := p2.size
            have isM4 := p3.isMap
            have isM4' := Lib.hid isM4; clear isM4
            have p4' := Lib.hid p4; clear p4
            have o4' := Lib.hid o4; clear o4 r1' r4' r7'
            have t4' := Lib.hid t4; clear t4
            have hc2' := Lib.hid hc2; clear hc2 p1 p2 p3 isM'
            go_wp2_with fail
            refine hc2'.out.mono ?_
            clear hc2'
            rintro e w5 ⟨b, v2, rs, K5, rfl, p1, p2, p3, p5⟩
            obtain ⟨g1, g2, g3⟩ := at_more gP'.out (by rw [← hm2'.out]; exact r6'.out) (by rw [← hm2'.out]; exact p4'.out) p5
            have o5 := o4'.out.trans p2
            have t5 : TextRow w5 w3.heap.size (.slice pt text.length ct) text := own_map t4'.out isM4'.out p2
            have hw5 := p2.size
            have hlen5 : rs.length ≤ manyN := Nat.le_trans p5.len p4'.out.len
            have p1b : Poss w5 w3.heap.size v2 rs := own_mono p1 (by omega)
            have o5' := Lib.hid o5; clear o5 o4'
            have t5' := Lib.hid t5; clear t5 t4'
            have p1' := Lib.hid p1b; clear p1 p1b
            have p3' := Lib.hid p3; clear p3 p2 p5
            have g1' := Lib.hid g1; clear g1
            have g3' := Lib.hid g3; clear g3
            have hb0 : (0 : Int) ≤ (b : Int) := by omega
            have hb255 : (b : Int) ≤ 255 := by omega
            go_wp2_with (first
              | (at_builtin
                 refine wpList_append_lies _ rfl (.tmp 95) (.tmp 97) 88 rfl w3.heap.size 5 j0 _ 1 1 Try.underlying88 hj0 hy0 hy1 hy2 rfl (by omega) _ text.length (text.map fun c : Nat => Value.int .u8 c) rfl (World.ownsRow.alloc t5'.out _) ⟨w5.heap.size, 0, none⟩ 1 1 [.int .u8 b] rfl rfl (pos_u8 w5 b) (by simp [Value.oneCell']) (by omega) (by unfold maxLen; omega) (by omega) (by simp; omega) (w5.heap.size + 1) (by simp) ?_
                 intro ga capa w6 own6 grow6 lies6 lt6
                 have own6' := Lib.hid own6; clear own6
                 have grow6' := Lib.hid grow6; clear grow6 lies6)
              | fail)
            have hrow : ∀ i, Value.ownBlock _ = some i → w3.heap.size ≤ i := fun i hi => (World.ownsRow.lt t5'.out i hi).1
            have hne : ∀ g, Value.ownBlock _ = some g → ¬ (Value.slice pt text.length ct).ownBlock = some g := fun g hg => own_ne p1'.out t5'.out (by decide) g hg
            have hfin : TextAt P Q mb n w3 m1 v2 (.slice (some ⟨ga, 0, none⟩) (text.length + 1) capa) w6 := by
              refine ⟨text ++ [b], rs, K5, ?_, g3'.out, hlen5, ?_, ?_, g1'.out, ?_, ?_⟩
              · exact own_only (World.ownsRow.alloc p1'.out (.cells #[.int .u8 b] 5)) (only_grown grow6'.out) hne
              · unfold TextRow
                rw [List.length_append, List.length_singleton, List.map_append]
                exact own6'.out
              · intro c hc
                rcases List.mem_append.1 hc with hc | hc
                · exact r5'.out c hc
                · simp only [List.mem_singleton] at hc
                  omega
              · exact (o5'.out.alloc (.cells #[.int .u8 b] 5)).step (only_grown grow6'.out) fun i hi => .inr (hrow i hi)
              · exact (p3'.out.heap (Below.heap_alloc w5 (.cells #[.int .u8 b] 5) mb p3'.out.lt)).only (only_grown grow6'.out) (fun e => own_ne_map t5'.out p3'.out.isMap e)
            have hfin' := Lib.hid hfin; clear hfin own6' grow6' hrow hne g1' g3' p1' p3' o5' t5'
            go_roundw
            case rel => exact ⟨m1, by have := hm2'.out; omega, by rw [show (m1 : Int) = (m : Int) - 1 from by have := hm2'.out; omega], hfin'.out⟩
            case measure => simp [intOf]; omega

/-- glob.Common answers the least common text, if there is one. -/
theorem common_any (p q : ByteArray) (w : World) (hp : p.size ≤ 1000000000000) (hq : q.size ≤ 1000000000000) : Calls Try.prog 24 #[.string p, .string q] w (ComPost p q w) := by
  by_cases h1 : errS (bs p) = 0
  · obtain ⟨P, hP⟩ := errS_zero h1
    by_cases h2 : errS (bs q) = 0
    · obtain ⟨Q, hQ⟩ := errS_zero h2
      refine (common_ok p q w hp hq hP hQ).mono ?_
      rintro e w' ⟨s, ok, he, hb, hn, hz, hc⟩
      refine ⟨s, ok, 0, he, hb, ⟨fun h => absurd h1 h, fun _ h => absurd h2 h, fun _ _ => ⟨rfl, hn, ?_⟩⟩, hz⟩
      have e1 : G.matchS (bs p) = G.anyM P := funext fun x => G.matchS_anyM hP x
      have e2 : G.matchS (bs q) = G.anyM Q := funext fun x => G.matchS_anyM hQ x
      rw [e1, e2]
      exact hc
    · refine (common_bad2 p q w hp hq hP rfl h2).mono ?_
      rintro e w' ⟨he, hb⟩
      exact ⟨⟨#[]⟩, false, _, he, hb, ⟨fun h => absurd h1 h, fun _ _ => ⟨rfl, rfl, rfl⟩, fun _ h => absurd h h2⟩, by decide⟩
  · refine (common_bad1 p q w hp rfl h1).mono ?_
    rintro e w' ⟨he, hb⟩
    exact ⟨⟨#[]⟩, false, _, he, hb, ⟨fun _ => ⟨rfl, rfl, rfl⟩, fun h => absurd h h1, fun h => absurd h h1⟩, by decide⟩

end Go.Proofs.Ytfihccfjboopiaa
