/-
  THE WALK of lexer.token: a token at the beginning of a text.
-/
import Derived.Test.YtofemhaepadggaaDoorLexValue
namespace Go.Proofs.YtofemhaepadggaaDoor
open Go.RowKit

theorem results_cell_tmp2 {fn : Func} {p u u2 : Tmp} {ty : TypeId} (h : fn.results = #[.cell p ty, .tmp u, .tmp u2]) (tmps : Array Value) (P : Program) (w : World) :
    (results fn tmps).run P w =
      ((asAddr (tmps.getD p undef)).run P w).andThen fun a w₁ => ((loadVar ty a).run P w₁).andThen fun v w₂ => .ok (.tuple #[v, tmps.getD u undef, tmps.getD u2 undef]) w₂ := by
  simp only [results, h]
  simp [Sem.run_bind, Result.andThen]
theorem results_row_tmp2 {P : Program} {fn : Func} {p u u2 : Tmp} {ty : TypeId} (h : fn.results = #[.cell p ty, .tmp u, .tmp u2]) (tmps : Array Value) (w : World) (g : Nat) (t : TypeId) (cs : Array Value) (d : TypeDesc)
    (hp : tmps.getD p undef = .pointer (some ⟨g, 0, none⟩)) (hg : w.heap[g]? = some (.cells cs t (0, 0)))
    (hu : P.underlying ty = some d) (hd : (match d with | .struct _ | .array _ _ => true | _ => false) = true) (hi : (P.info? ty).map (·.size) = some cs.size) :
    (results fn tmps).run P w = .ok (.tuple #[.agg cs, tmps.getD u undef, tmps.getD u2 undef]) w := by
  rw [results_cell_tmp2 h, hp]
  simp [asAddr, run_loadVar_row w g t ty cs (0, 0) d hg hu hd hi]

def tokC (a b c d : ByteArray) : Array Value := #[.string a, .string b, .string c, .string d]
abbrev emp : ByteArray := ⟨#[]⟩
theorem sizeTok (a b c d : ByteArray) : (Tryd.prog.info? 40).map (·.size) = some (tokC a b c d).size := by
  show _ = some 4
  kernel_rfl
theorem oneTok (a b c d : ByteArray) : (tokC a b c d).all (·.oneCell') = true := by simp [tokC, Value.oneCell']
def TokPost (w : World) (r : L.Tok × List Nat × Int) (e : Ending) (w' : World) : Prop :=
  (∃ a b c d t : ByteArray, e = .returned (.tuple #[.agg (tokC a b c d), .string t, .int .i64 r.2.2]) ∧ bs a = r.1.k ∧ bs b = r.1.n ∧ bs c = r.1.o ∧ bs d = r.1.v ∧ bs t = r.2.1) ∧ Below w.heap.size w w'

set_option maxRecDepth 100000 in
set_option maxHeartbeats 2000000 in
theorem token_any (s : ByteArray) (w : World) (hs : s.size ≤ 1000000) : Calls Tryd.prog 32 #[.string s] w (TokPost w (L.tokS (bs s))) := by
  have hN := fun W => count_gen L.letter 50 (.inl rfl) letter_any s W (by omega)
  have hcle := L.cnt_le L.letter (bs s)
  rw [length_bs] at hcle
  obtain ⟨T, hT⟩ : ∃ T, L.tokS (bs s) = T := ⟨_, rfl⟩
  rw [hT]
  unfold L.tokS at hT
  obtain ⟨n, hn⟩ : ∃ n, L.cnt L.letter (bs s) = n := ⟨_, rfl⟩
  rw [hn] at hN hcle hT
  clear hn
  have hN' := Lib.hid hN; clear hN
  by_cases h0 : n = 0
  · rw [if_pos h0] at hT
    subst h0
    have hT' := Lib.hid hT; clear hT
    go_enter Tryd.func32, Tryd.ntmps32
    go_wp2_with fail
    refine (hN'.out _).mono ?_
    rintro e v1 ⟨rfl, hb⟩
    have hR : Hid (Blk v1 w.heap.size 40 (tokC emp emp emp emp)) := (Blk.new _ _ _).below hb (by simp)
    have hb1 : Hid (Below w.heap.size w v1) := ((Below.refl _ _).alloc (Nat.le_refl _) _).trans (hb.mono (by simp))
    clear hb
    go_wp2_with (refine wpList_store_row rfl 40 (.tmp 2) (.tmp 12) rfl w.heap.size (tokC emp emp emp emp) rfl rfl 40 (tokC emp emp emp emp) hR.out (sizeTok _ _ _ _) rfl (oneTok _ _ _ _) ?_)
    refine bodyPost_ret (results_row_tmp2 rfl _ _ w.heap.size 40 _ _ rfl (hR.out.row _) Tryd.underlying40 rfl (sizeTok _ _ _ _)) rfl ?_
    rw [← hT'.out]
    exact ⟨⟨emp, emp, emp, emp, emp, rfl, rfl, rfl, rfl, rfl, rfl⟩, below_row hb1.out (Nat.le_refl _) _⟩
  · rw [if_neg h0] at hT
    have i0 : ¬ (n : Int) = 0 := by omega
    have i0' : ((n : Int) == 0) = false := beq_eq_false_iff_ne.2 i0
    have in1 : (n : Int) ≤ (s.size : Int) := by omega
    have hs2 : (s.extract n s.size).size ≤ 1000000 := by rw [size_rest]; omega
    have hkey : Hid (bs (s.extract 0 n) = (bs s).take n) := bs_to s n
    have hM := fun W => name_any (s.extract n s.size) W (by omega)
    rw [bs_extract] at hM
    obtain ⟨m, hm⟩ : ∃ m, L.nameS ((bs s).drop n) = m := ⟨_, rfl⟩
    rw [hm] at hM
    dsimp only at hT
    rw [hm] at hT
    have hmle : m.2.1.length ≤ s.size := by
      rw [← hm]
      have h1 : ∀ l : List Nat, (L.nameS l).2.1.length ≤ l.length := by
        intro l
        unfold L.nameS
        split
        · rename_i r
          split
          · simp
          · split
            · simp
            · simp; omega
        · simp
      have h2 := h1 ((bs s).drop n)
      rw [List.length_drop, length_bs] at h2
      omega
    clear hm
    have hM' := Lib.hid hM; clear hM h0 hs2
    have hT1 := Lib.hid hT; clear hT
    go_enter Tryd.func32, Tryd.ntmps32
    go_wp2_with fail
    refine (hN'.out _).mono ?_
    rintro e v1 ⟨rfl, hb⟩
    have hR1 : Hid (Blk v1 w.heap.size 40 (tokC emp emp emp emp)) := (Blk.new _ _ _).below hb (by simp)
    have hb1 : Hid (Below w.heap.size w v1) := ((Below.refl _ _).alloc (Nat.le_refl _) _).trans (hb.mono (by simp))
    have hlt1 : Hid (w.heap.size < v1.heap.size) := hR1.out.lt
    have hX1 : Hid (Blk (v1.alloc (.cells (tokC (s.extract 0 n) emp emp emp) 40)) v1.heap.size 40 (tokC (s.extract 0 n) emp emp emp)) := Blk.new _ _ _
    have hR2 : Hid (Blk (v1.alloc (.cells (tokC (s.extract 0 n) emp emp emp) 40)) w.heap.size 40 (tokC emp emp emp emp)) := hR1.out.alloc _
    have hb2 : Hid (Below w.heap.size w (v1.alloc (.cells (tokC (s.extract 0 n) emp emp emp) 40))) := hb1.out.alloc (Nat.le_of_lt hlt1.out) _
    clear hb hR1 hb1 hN'
    obtain ⟨x, hx⟩ : ∃ x, v1.heap.size = x := ⟨_, rfl⟩
    rw [hx] at hX1 hlt1
    go_wp2_with fail
    refine (hM'.out _).mono ?_
    rintro e v3 ⟨⟨na, re, rfl, hna, hre⟩, hb3⟩
    have hX3 : Blk v3 x 40 (tokC (s.extract 0 n) emp emp emp) := hX1.out.below hb3 hX1.out.lt
    have hR3 : Blk v3 w.heap.size 40 (tokC emp emp emp emp) := hR2.out.below hb3 hR2.out.lt
    have hbb3 : Below w.heap.size w v3 := hb2.out.trans (hb3.mono hb2.out.size)
    have c1 := hX3.cell 1
    have f1 := hX3.frozen 1
    simp only [tokC, List.getElem?_toArray, List.getElem?_cons_zero, List.getElem?_cons_succ] at c1
    have hXs : Hid (∀ u, Blk (v3.setCell ⟨x, 1, none⟩ (.string u)) x 40 (tokC (s.extract 0 n) u emp emp)) := fun u => hX3.store 1 (.string u)
    have hRs : Hid (∀ u, Blk (v3.setCell ⟨x, 1, none⟩ (.string u)) w.heap.size 40 (tokC emp emp emp emp)) := fun u => hR3.other (by show w.heap.size ≠ x; have := hlt1.out; omega) _
    have hbs : Hid (∀ u, Below w.heap.size w (v3.setCell ⟨x, 1, none⟩ (.string u))) := fun u => hbb3.setCell (by show w.heap.size ≤ x; have := hlt1.out; omega) _
    have hna' := Lib.hid hna
    have hre' := Lib.hid hre
    have hres : re.size ≤ 1000000 := by rw [← length_bs, hre]; omega
    clear hX3 hR3 hbb3 hX1 hR2 hb2 hb3 hna hre hx hM'
    by_cases he : m.2.2 = 0
    · have hT2 := hT1.out
      rw [if_neg (by simpa using he)] at hT2
      clear hT1
      have hO := fun W => op_any re W
      rw [hre'.out] at hO
      obtain ⟨o, ho⟩ : ∃ o, L.opS m.2.1 = o := ⟨_, rfl⟩
      rw [ho] at hO hT2
      have hole : o.2.1.length ≤ s.size := by
        rw [← ho]
        unfold L.opS
        split
        · simp; omega
        · simp
      clear ho
      rw [he]
      have hO' := Lib.hid hO; clear hO
      have hT3 := Lib.hid hT2; clear hT2
      go_wp2_with fail
      refine (hO'.out _).mono ?_
      rintro e v4 ⟨⟨oa, rf, rfl, hoa, hrf⟩, hb4⟩
      have hX4 : Blk v4 x 40 (tokC (s.extract 0 n) na emp emp) := (hXs.out na).below hb4 (hXs.out na).lt
      have hR4 : Blk v4 w.heap.size 40 (tokC emp emp emp emp) := (hRs.out na).below hb4 (hRs.out na).lt
      have hbb4 : Below w.heap.size w v4 := (hbs.out na).trans (hb4.mono (hbs.out na).size)
      clear c1 f1
      have c2 := hX4.cell 2
      have f2 := hX4.frozen 2
      simp only [tokC, List.getElem?_toArray, List.getElem?_cons_zero, List.getElem?_cons_succ] at c2
      have hXt : Hid (∀ u, Blk (v4.setCell ⟨x, 2, none⟩ (.string u)) x 40 (tokC (s.extract 0 n) na u emp)) := fun u => hX4.store 2 (.string u)
      have hRt : Hid (∀ u, Blk (v4.setCell ⟨x, 2, none⟩ (.string u)) w.heap.size 40 (tokC emp emp emp emp)) := fun u => hR4.other (by show w.heap.size ≠ x; have := hlt1.out; omega) _
      have hbt : Hid (∀ u, Below w.heap.size w (v4.setCell ⟨x, 2, none⟩ (.string u))) := fun u => hbb4.setCell (by show w.heap.size ≤ x; have := hlt1.out; omega) _
      have hoa' := Lib.hid hoa
      have hrf' := Lib.hid hrf
      have hrfs : rf.size ≤ 1000000 := by rw [← length_bs, hrf]; omega
      clear hX4 hR4 hbb4 hXs hRs hbs hb4 hoa hrf hO'
      by_cases hf : o.2.2 = 0
      · have hT4 := hT3.out
        rw [if_neg (by simpa using hf)] at hT4
        clear hT3
        have hV := fun W => value_any rf W hrfs
        rw [hrf'.out] at hV
        obtain ⟨va, hva⟩ : ∃ va, L.valS o.2.1 = va := ⟨_, rfl⟩
        rw [hva] at hV hT4
        clear hva
        rw [hf]
        have hV' := Lib.hid hV; clear hV
        have hT5 := Lib.hid hT4; clear hT4
        go_wp2_with fail
        refine (hV'.out _).mono ?_
        rintro e v5 ⟨⟨vb, rg, rfl, hvb, hrg⟩, hb5⟩
        have hX5 : Blk v5 x 40 (tokC (s.extract 0 n) na oa emp) := (hXt.out oa).below hb5 (hXt.out oa).lt
        have hR5 : Blk v5 w.heap.size 40 (tokC emp emp emp emp) := (hRt.out oa).below hb5 (hRt.out oa).lt
        have hbb5 : Below w.heap.size w v5 := (hbt.out oa).trans (hb5.mono (hbt.out oa).size)
        clear c2 f2
        have c3 := hX5.cell 3
        have f3 := hX5.frozen 3
        simp only [tokC, List.getElem?_toArray, List.getElem?_cons_zero, List.getElem?_cons_succ] at c3
        have hXu : Blk (v5.setCell ⟨x, 3, none⟩ (.string vb)) x 40 (tokC (s.extract 0 n) na oa vb) := hX5.store 3 (.string vb)
        have hRu : Blk (v5.setCell ⟨x, 3, none⟩ (.string vb)) w.heap.size 40 (tokC emp emp emp emp) := hR5.other (by show w.heap.size ≠ x; have := hlt1.out; omega) _
        have hbu : Below w.heap.size w (v5.setCell ⟨x, 3, none⟩ (.string vb)) := hbb5.setCell (by show w.heap.size ≤ x; have := hlt1.out; omega) _
        have d0 := hXu.cell 0
        have d1 := hXu.cell 1
        have d2 := hXu.cell 2
        have d3 := hXu.cell 3
        simp only [tokC, List.getElem?_toArray, List.getElem?_cons_zero, List.getElem?_cons_succ] at d0 d1 d2 d3
        have hRu' := Lib.hid hRu
        have hbu' := Lib.hid hbu
        clear hX5 hR5 hbb5 hXt hRt hbt hb5 hXu hRu hbu hV'
        by_cases hg : va.2.2 = 0
        · have hT6 := hT5.out
          rw [if_neg (by simpa using hg)] at hT6
          have hT' := Lib.hid hT6; clear hT6 hT5
          rw [hg]
          go_upto_region 15 with fail
          generalize v5.setCell ⟨x, 3, none⟩ (.string vb) = W at *
          clear c3 f3
          go_wp2_with (refine wpList_store_row rfl 40 (.tmp 2) (.tmp 52) rfl w.heap.size (tokC (s.extract 0 n) na oa vb) rfl rfl 40 (tokC emp emp emp emp) hRu'.out (sizeTok _ _ _ _) rfl (oneTok _ _ _ _) ?_)
          refine bodyPost_ret (results_row_tmp2 rfl _ _ w.heap.size 40 _ _ rfl (hRu'.out.row _) Tryd.underlying40 rfl (sizeTok _ _ _ _)) rfl ?_
          rw [← hT'.out]
          exact ⟨⟨s.extract 0 n, na, oa, vb, rg, rfl, hkey.out, hna'.out, hoa'.out, hvb, hrg⟩, below_row hbu'.out (Nat.le_refl _) _⟩
        · have hT6 := hT5.out
          rw [if_pos (by simpa using hg)] at hT6
          have hT' := Lib.hid hT6; clear hT6 hT5
          have ig : ¬ va.2.2 = 0 := hg
          have ig' : (va.2.2 == 0) = false := beq_eq_false_iff_ne.2 hg
          clear d0 d1 d2 d3
          go_upto_region 14 with fail
          generalize v5.setCell ⟨x, 3, none⟩ (.string vb) = W at *
          clear c3 f3
          go_wp2_with (refine wpList_store_row rfl 40 (.tmp 2) (.tmp 50) rfl w.heap.size (tokC emp emp emp emp) rfl rfl 40 (tokC emp emp emp emp) hRu'.out (sizeTok _ _ _ _) rfl (oneTok _ _ _ _) ?_)
          refine bodyPost_ret (results_row_tmp2 rfl _ _ w.heap.size 40 _ _ rfl (hRu'.out.row _) Tryd.underlying40 rfl (sizeTok _ _ _ _)) rfl ?_
          rw [← hT'.out]
          exact ⟨⟨emp, emp, emp, emp, emp, rfl, rfl, rfl, rfl, rfl, rfl⟩, below_row hbu'.out (Nat.le_refl _) _⟩
      · have hT6 := hT3.out
        rw [if_pos (by simpa using hf)] at hT6
        have hT' := Lib.hid hT6; clear hT6 hT3
        have ig : ¬ o.2.2 = 0 := hf
        have ig' : (o.2.2 == 0) = false := beq_eq_false_iff_ne.2 hf
        have hRu' := Lib.hid (hRt.out oa)
        have hbu' := Lib.hid (hbt.out oa)
        clear hXt hRt hbt
        go_upto_region 11 with fail
        generalize v4.setCell ⟨x, 2, none⟩ (.string oa) = W at *
        clear c2 f2
        go_wp2_with (refine wpList_store_row rfl 40 (.tmp 2) (.tmp 39) rfl w.heap.size (tokC emp emp emp emp) rfl rfl 40 (tokC emp emp emp emp) hRu'.out (sizeTok _ _ _ _) rfl (oneTok _ _ _ _) ?_)
        refine bodyPost_ret (results_row_tmp2 rfl _ _ w.heap.size 40 _ _ rfl (hRu'.out.row _) Tryd.underlying40 rfl (sizeTok _ _ _ _)) rfl ?_
        rw [← hT'.out]
        exact ⟨⟨emp, emp, emp, emp, emp, rfl, rfl, rfl, rfl, rfl, rfl⟩, below_row hbu'.out (Nat.le_refl _) _⟩
    · have hT6 := hT1.out
      rw [if_pos (by simpa using he)] at hT6
      have hT' := Lib.hid hT6; clear hT6 hT1
      have ig : ¬ m.2.2 = 0 := he
      have ig' : (m.2.2 == 0) = false := beq_eq_false_iff_ne.2 he
      have hRu' := Lib.hid (hRs.out na)
      have hbu' := Lib.hid (hbs.out na)
      clear hXs hRs hbs
      go_upto_region 8 with fail
      generalize v3.setCell ⟨x, 1, none⟩ (.string na) = W at *
      clear c1 f1
      go_wp2_with (refine wpList_store_row rfl 40 (.tmp 2) (.tmp 28) rfl w.heap.size (tokC emp emp emp emp) rfl rfl 40 (tokC emp emp emp emp) hRu'.out (sizeTok _ _ _ _) rfl (oneTok _ _ _ _) ?_)
      refine bodyPost_ret (results_row_tmp2 rfl _ _ w.heap.size 40 _ _ rfl (hRu'.out.row _) Tryd.underlying40 rfl (sizeTok _ _ _ _)) rfl ?_
      rw [← hT'.out]
      exact ⟨⟨emp, emp, emp, emp, emp, rfl, rfl, rfl, rfl, rfl, rfl⟩, below_row hbu'.out (Nat.le_refl _) _⟩

end Go.Proofs.YtofemhaepadggaaDoor
