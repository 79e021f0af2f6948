/-
  THE WALK of coldplugref04.Insert: an error, or the tree with the device put in somewhere.
-/
import Derived.Test.YtinjeijjfkkhbaaGreatDoorZOrigin
import Derived.Test.YtinjeijjfkkhbaaGreatDoorZAppRun
import Derived.BigRegion
namespace Go.Proofs.YtinjeijjfkkhbaaGreatDoor
open Go Go.RowKit

/-- What a cut leaves, kept folded in the walks. -/
def cutV (a : Option Addr) (l h m : Nat) : Value := sliced a l h m 10
theorem cut_size (W : World) : (sizeOf (Tryz.prog.elem 28)).run Tryz.prog W = .ok 10 W := by kernel_rfl
theorem cut_lo (a : Option Addr) (n c : Nat) (k : Int) (W : World) (h0 : 0 ≤ k) (h1 : k ≤ c) : (Instr.sliceAt 28 (.slice a n c) none (some (.int .i64 k)) none).run Tryz.prog W = .ok (cutV a 0 k.toNat c) W := by
  have hu : Tryz.prog.underlying 28 = some (.slice (Tryz.prog.elem 28)) := by kernel_rfl
  rw [run_sliceAt_slice W _ _ _ _ _ hu, run_slice_h W _ a n c hu .i64 k h0 h1, cut_size]
  rfl
theorem cut_hi (a : Option Addr) (n c : Nat) (k : Int) (W : World) (h0 : 0 ≤ k) (h1 : k ≤ n) : (Instr.sliceAt 28 (.slice a n c) (some (.int .i64 k)) none none).run Tryz.prog W = .ok (cutV a k.toNat n c) W := by
  have hu : Tryz.prog.underlying 28 = some (.slice (Tryz.prog.elem 28)) := by kernel_rfl
  rw [run_sliceAt_slice W _ _ _ _ _ hu, run_slice_l W _ a n c hu .i64 k h0 h1, cut_size]
  rfl
attribute [local go_sem ↓] cut_lo cut_hi
theorem app_op (ev : Operand → Value) (d : Option Tmp) (s x : Operand) (pos : String) (after : Array Edge) (guard : Option (Nat × Bool)) (w : World) :
    Sem.run Tryz.prog (execOp ev ⟨d, .call { callee := .builtin .append, args := #[s, x], argTypes := #[28, 28] }, 28, pos, after, guard⟩) w = (appDev (ev s) (ev x) w).andThen fun v w => .ok (.value v) w := by
  rw [← app_run]
  congr 1
  unfold execOp appSem
  simp [resolve, invoke, builtin]
attribute [local go_sem ↓] app_op

theorem sizeTree (a : Array Value) (h : a.size = 1) : (Tryz.prog.info? 30).map (·.size) = some a.size := by
  rw [h]; kernel_rfl
section
variable {ops : Array Oper} {o : Oper} {a : Act} {w : World} {K : Act → World → Prop} {Q : Exit → Act → World → Prop} {E : Prop}
theorem step_app_str (hgd : o.guard = none) (s x : Operand) (B : Nat) (p : Option Addr) (n cp : Nat) (L : List ByteArray) (b : Nat) (t : ByteArray)
    (ho : o.op = .call { callee := .builtin .append, args := #[s, x], argTypes := #[52, 52] })
    (hs : a.eval s = .slice p n cp) (hown : OwnS w B p n cp L) (hx : a.eval x = .slice (some ⟨b, 0, none⟩) 1 1) (hV : Blk w b 9 #[.string t])
    (hn : n ≤ 1000000) (hbase : B ≤ w.heap.size)
    (h : ∀ p' cp' w', OwnS w' B p' (n + 1) cp' (L ++ [t]) → Only (fun k => (Value.slice p n cp).ownBlock = some k) w w' → K (a.put o.dst (.slice p' (n + 1) cp')) w') :
    if Region.wanted o (yielded ops a.tmps) = true then Oper.wp Tryz.prog o a w K Q else E := by
  have hw : Region.wanted o (yielded ops a.tmps) = true := by simp [Region.wanted, hgd]
  rw [if_pos hw]
  exact wp_app_str s x B p n cp L b t ho hs hown hx hV hn hbase h
theorem step_app_devs (hgd : o.guard = none) (s x : Operand) (B : Nat) (p : Option Addr) (n cp : Nat) (L : List Dev) (V : Value) (l : List Dev)
    (ho : o.op = .call { callee := .builtin .append, args := #[s, x], argTypes := #[28, 28] })
    (hs : a.eval s = .slice p n cp) (hown : OwnV w B p n cp L) (hx : a.eval x = V) (hV : RowAt w V 10 (l.map devC))
    (N : Nat) (hN : n + l.length = N) (hn : N ≤ 1000000) (hbase : B ≤ w.heap.size)
    (h : ∀ p' cp' w', OwnV w' B p' N cp' (L ++ l) → Only (fun k => (Value.slice p n cp).ownBlock = some k) w w' → K (a.put o.dst (.slice p' N cp')) w') :
    if Region.wanted o (yielded ops a.tmps) = true then Oper.wp Tryz.prog o a w K Q else E := by
  have hw : Region.wanted o (yielded ops a.tmps) = true := by simp [Region.wanted, hgd]
  rw [if_pos hw]
  obtain ⟨ad, c, rfl⟩ : ∃ ad c, V = .slice ad l.length c := by
    rcases hV.2 with ⟨hv, h0⟩ | ⟨g, o, cap, hv, _⟩
    · rw [List.map_eq_nil_iff] at h0
      subst h0
      exact ⟨none, 0, hv⟩
    · exact ⟨_, cap, by rw [hv, List.length_map]⟩
  exact wp_app_devs s x B p n cp L ad c l ho hs hown hx hV N hN hn hbase h
end
theorem rows_lo {w : World} {a : Option Addr} {n c k : Nat} {l : List Dev} (h : RowAt w (.slice a n c) 10 (l.map devC)) (hk : k ≤ n) : RowAt w (sliced a 0 k c 10) 10 ((l.take k).map devC) := by
  obtain ⟨h1, h2⟩ := h
  rw [List.length_map] at h1
  rcases h2 with ⟨h, h0⟩ | ⟨g, o, cap, h, hg, hcc⟩
  · rw [List.map_eq_nil_iff] at h0
    subst h0
    cases h
    obtain rfl : k = 0 := by omega
    exact ⟨by simp, .inl ⟨rfl, rfl⟩⟩
  · cases h
    rw [List.length_map] at hk
    have hkl : (l.take k).length = k := by rw [List.length_take]; omega
    refine ⟨by rw [List.length_map, hkl]; omega, .inr ⟨g, o, c, ?_, hg, fun i xs hx j u hu => ?_⟩⟩
    · unfold sliced
      rw [List.length_map, hkl, Option.map_some, addr_add]
      simp
    · rw [List.map_take, List.getElem?_take] at hx
      split at hx
      · exact hcc i xs hx j u hu
      · cases hx
theorem rows_hi {w : World} {a : Option Addr} {n c k : Nat} {l : List Dev} (h : RowAt w (.slice a n c) 10 (l.map devC)) (hk : k ≤ n) (hnc : n ≤ c) : RowAt w (sliced a k n c 10) 10 ((l.drop k).map devC) := by
  obtain ⟨h1, h2⟩ := h
  rw [List.length_map] at h1
  rcases h2 with ⟨h, h0⟩ | ⟨g, o, cap, h, hg, hcc⟩
  · rw [List.map_eq_nil_iff] at h0
    subst h0
    cases h
    obtain rfl : k = 0 := by omega
    exact ⟨by simp, .inl ⟨rfl, rfl⟩⟩
  · cases h
    rw [List.length_map] at hk hnc
    have hkl : (l.drop k).length = l.length - k := by rw [List.length_drop]
    by_cases hck : c = k
    · refine ⟨by rw [List.length_map, hkl]; omega, .inr ⟨g, o, c - k, ?_, hg, fun i xs hx j u hu => ?_⟩⟩
      · unfold sliced
        rw [if_pos hck]
        simp only [List.length_map, List.length_drop]
      · have : i < ((l.drop k).map devC).length := (List.getElem?_eq_some_iff.1 hx).1
        rw [List.length_map, hkl] at this
        omega
    · refine ⟨by rw [List.length_map, hkl]; omega, .inr ⟨g, o + k * 10, c - k, ?_, hg, fun i xs hx j u hu => ?_⟩⟩
      · unfold sliced
        rw [if_neg hck, Option.map_some, addr_add]
        simp only [List.length_map, List.length_drop]
      · rw [List.map_drop, List.getElem?_drop] at hx
        rw [← hcc (k + i) xs hx j u hu]
        congr 2
        rw [Nat.add_mul]
        omega
theorem below_nilV {w0 w w' : World} (hb : Below w0.heap.size w0 w) (h : Only (fun k => (Value.slice none 0 0).ownBlock = some k) w w') : Below w0.heap.size w0 w' :=
  ⟨h.os.trans hb.os, h.tape.trans hb.tape, h.output.trans hb.output, Nat.le_trans hb.size h.size, fun k hk => (h.block k (by have := hb.size; omega) fun e => by cases e).trans (hb.block k hk)⟩
theorem blk_nilV {w w' : World} {b : Nat} {t : TypeId} {cs : Array Value} (hb : Blk w b t cs) (h : Only (fun k => (Value.slice none 0 0).ownBlock = some k) w w') : Blk w' b t cs := hb.same (h.block b hb.lt fun e => by cases e)
/-- What Insert answers. -/
def InsPost (w : World) (l : List Dev) (d : Dev) (e : Ending) (w' : World) : Prop :=
  ((∃ er : Int, er ≠ 0 ∧ e = .returned (.tuple #[.agg #[.slice none 0 0], .int .i64 er])) ∨
   (∃ (k m cp : Nat) (q : Option Addr), k ≤ l.length ∧ e = .returned (.tuple #[.agg #[.slice q m cp], .int .i64 0]) ∧ OwnV w' w.heap.size q m cp (l.take k ++ d :: l.drop k))) ∧ Below w.heap.size w w'

set_option maxRecDepth 100000 in
set_option maxHeartbeats 8000000 in
theorem rinsert_any (l : List Dev) (p : Option Addr) (n c : Nat) (d : Dev) (m : Int) (w : World) (hl : DevsAt w (.slice p n c) l) (hn : n ≤ 200) (hnc : n ≤ c) (hsm : ∀ x ∈ l, DevSm x) (hd : DevAt w d) (hs : DevSm d) (hm : MaxIs m w) :
    Calls Tryz.prog 17 #[.agg #[.slice p n c], devV d] w (InsPost w l d) := by
  obtain ⟨x0, x1, x2, x3, x4, x5, x6, x7, x8, xa, xn, xc, xt⟩ := d
  have hln : Hid (l.length = n) := hl.len
  have hchk := fun W h1 h2 => zcheck_any ⟨x0, x1, x2, x3, x4, x5, x6, x7, x8, xa, xn, xc, xt⟩ m W h1 hs h2
  have hcl := fun W (f : Dev) h1 h2 => zclash_any f ⟨x0, x1, x2, x3, x4, x5, x6, x7, x8, xa, xn, xc, xt⟩ m W h1 hs.2.1 h2
  have hsm' := Lib.hid hsm; clear hsm
  have s3 : x3.size ≤ 100 := hs.2.1
  unfold devV at hchk hcl ⊢
  simp only at hchk hcl ⊢
  have hchk' := Lib.hid hchk; clear hchk
  have hcl' := Lib.hid hcl; clear hcl
  have hbw : Hid (Below w.heap.size w (((w.alloc (.cells #[.slice p n c] 30)).alloc (.cells #[.int .i64 x0, .int .i64 x1, .string x2, .string x3, .string x4, .string x5, .string x6, .int .i64 x7, .int .i64 x8, .slice xa xn xc] 40)).alloc (.cells #[.slice none 0 0] 30))) := (((Below.refl _ _).alloc (Nat.le_refl _) _).alloc (by simp) _).alloc (by simp; omega) _
  have hX : Hid (Blk (((w.alloc (.cells #[.slice p n c] 30)).alloc (.cells #[.int .i64 x0, .int .i64 x1, .string x2, .string x3, .string x4, .string x5, .string x6, .int .i64 x7, .int .i64 x8, .slice xa xn xc] 40)).alloc (.cells #[.slice none 0 0] 30)) w.heap.size 30 #[.slice p n c]) := ((Blk.new _ _ _).alloc _).alloc _
  have hD : Hid (Blk (((w.alloc (.cells #[.slice p n c] 30)).alloc (.cells #[.int .i64 x0, .int .i64 x1, .string x2, .string x3, .string x4, .string x5, .string x6, .int .i64 x7, .int .i64 x8, .slice xa xn xc] 40)).alloc (.cells #[.slice none 0 0] 30)) (w.heap.size + 1) 40 #[.int .i64 x0, .int .i64 x1, .string x2, .string x3, .string x4, .string x5, .string x6, .int .i64 x7, .int .i64 x8, .slice xa xn xc]) := (Blk.new_ _ _ _ (by simp)).alloc _
  have hR : Hid (Blk (((w.alloc (.cells #[.slice p n c] 30)).alloc (.cells #[.int .i64 x0, .int .i64 x1, .string x2, .string x3, .string x4, .string x5, .string x6, .int .i64 x7, .int .i64 x8, .slice xa xn xc] 40)).alloc (.cells #[.slice none 0 0] 30)) (w.heap.size + 2) 30 #[.slice none 0 0]) := Blk.new_ _ _ _ (by simp)
  have hl0 := Lib.hid (hl.below hbw.out)
  have hd0 : Hid (DevAt (((w.alloc (.cells #[.slice p n c] 30)).alloc (.cells #[.int .i64 x0, .int .i64 x1, .string x2, .string x3, .string x4, .string x5, .string x6, .int .i64 x7, .int .i64 x8, .slice xa xn xc] 40)).alloc (.cells #[.slice none 0 0] 30)) ⟨x0, x1, x2, x3, x4, x5, x6, x7, x8, xa, xn, xc, xt⟩) := RowAt.below hd hbw.out
  have hm0 := Lib.hid (hm.below hbw.out)
  clear hl hd hm hs
  go_enter Tryz.func17, Tryz.ntmps17
  go_upto_region 1 with fail
  generalize (((w.alloc (.cells #[.slice p n c] 30)).alloc (.cells #[.int .i64 x0, .int .i64 x1, .string x2, .string x3, .string x4, .string x5, .string x6, .int .i64 x7, .int .i64 x8, .slice xa xn xc] 40)).alloc (.cells #[.slice none 0 0] 30)) = w0 at *
  have hlow : w.heap.size + 2 < w0.heap.size := hR.out.lt
  have hk : Hid (∀ Y, Below w0.heap.size w0 Y → Y.cell? ⟨w.heap.size, 0, none⟩ = some (.slice p n c) ∧ Y.cell? ⟨w.heap.size + 1, 0, none⟩ = some (.int .i64 x0) ∧ Y.cell? ⟨w.heap.size + 1, 1, none⟩ = some (.int .i64 x1) ∧ Y.cell? ⟨w.heap.size + 1, 3, none⟩ = some (.string x3)) := fun Y h =>
    ⟨((hX.out.below h hX.out.lt).cell 0).trans rfl, ((hD.out.below h hD.out.lt).cell 0).trans rfl, ((hD.out.below h hD.out.lt).cell 1).trans rfl, ((hD.out.below h hD.out.lt).cell 3).trans rfl⟩
  have hk2 : Hid (∀ Y, Below w0.heap.size w0 Y → Blk Y (w.heap.size + 1) 40 #[.int .i64 x0, .int .i64 x1, .string x2, .string x3, .string x4, .string x5, .string x6, .int .i64 x7, .int .i64 x8, .slice xa xn xc]) := fun Y h => hD.out.below h hD.out.lt
  have hk3 : Hid (∀ Y, Below w0.heap.size w0 Y → Blk Y (w.heap.size + 2) 30 #[.slice none 0 0]) := fun Y h => hR.out.below h hR.out.lt
  have hk4 : Hid (∀ Y, Below w0.heap.size w0 Y → DevsAt Y (.slice p n c) l ∧ MaxIs m Y) := fun Y h => ⟨hl0.out.below h, hm0.out.below h⟩
  have hfin : Hid (∀ Y (er : Int), er ≠ 0 → Below w0.heap.size w0 Y → InsPost w l ⟨x0, x1, x2, x3, x4, x5, x6, x7, x8, xa, xn, xc, xt⟩ (.returned (.tuple #[.agg #[.slice none 0 0], .int .i64 er])) (Y.setRow (w.heap.size + 2) #[.slice none 0 0])) := fun Y er he h =>
    ⟨.inl ⟨er, he, rfl⟩, below_row (hbw.out.trans (h.mono hbw.out.size)) (by omega) _⟩
  have hone : (#[.slice none 0 0] : Array Value).all (·.oneCell') = true := by simp [Value.oneCell']
  clear hX hD hR hl0 hm0
  have hb : Hid (Below w0.heap.size w0 w0) := Below.refl _ _
  obtain ⟨t0, d0, d1, d3⟩ := hk.out _ hb.out
  go_wp2_with (first | (refine wpList_load_row rfl 40 (.tmp 3) rfl (w.heap.size + 1) rfl 40 _ (0, 0) _ (hk2.out _ hb.out) Tryz.underlying40 rfl rfl ?_) | fail)
  refine (hchk'.out _ hd0.out (hk4.out _ hb.out).2).mono ?_
  rintro e v1 ⟨⟨er, rfl⟩, hbx⟩
  clear t0 d0 d1 d3
  have hb2 := Lib.hid (hb.out.trans (hbx.mono hb.out.size)); clear hb hbx
  have hb := hb2; clear hb2
  obtain ⟨t0, d0, d1, d3⟩ := hk.out _ hb.out
  by_cases he0 : er = 0
  · subst he0
    have hI := Lib.hid (zindex_any l p n c x0 v1 (hk4.out _ hb.out).1 (by omega))
    generalize refIdx l x0 = r0 at *
    go_wp2_with fail
    refine hI.out.mono ?_
    rintro e v2 ⟨rfl, hbx⟩
    clear t0 d0 d1 d3
    have hb2 := Lib.hid (hb.out.trans (hbx.mono hb.out.size)); clear hb hbx
    have hb := hb2; clear hb2
    clear hI
    obtain ⟨t0, d0, d1, d3⟩ := hk.out _ hb.out
    by_cases h1 : 0 ≤ r0
    · skip
      have hRY := Lib.hid (hk3.out v2 hb.out)
      go_wp2_with (refine wpList_store_row rfl 30 (.tmp 4) (.tmp 21) rfl (w.heap.size + 2) #[.slice none 0 0] rfl rfl 30 #[.slice none 0 0] hRY.out (sizeTree _ rfl) rfl hone ?_)
      refine bodyPost_ret (results_row_tmp rfl _ _ (w.heap.size + 2) 30 _ _ rfl (hRY.out.row _) Tryz.underlying30 rfl (sizeTree _ rfl)) rfl ?_
      exact hfin.out v2 44 (by decide) hb.out
    have hI := Lib.hid (zindex_any l p n c x1 v2 (hk4.out _ hb.out).1 (by omega))
    generalize refIdx l x1 = r1 at *
    go_upto_region 5 with fail
    clear h1
    go_cut [32] (fun s32 wx => ∃ b : Bool, s32 = .bool b ∧ Hid (Below w0.heap.size w0 wx))
    case first =>
      by_cases h2 : x1 = 0
      · have n2 : (x1 != 0) = false := by simpa using h2
        clear h2
        go_wp2_with fail
        go_meet
        exact ⟨_, rfl, hb⟩
      · have n2 : (x1 != 0) = true := by simpa using h2
        clear h2
        go_wp2_with fail
        refine hI.out.mono ?_
        rintro e v3 ⟨rfl, hbx⟩
        have hb2 := Lib.hid (hb.out.trans (hbx.mono hb.out.size))
        by_cases h3 : r1 < 0
        all_goals
          go_wp2_with fail
          go_meet
          exact ⟨_, rfl, hb2⟩
    case rest =>
      clear t0 d0 d1 d3
      clear hb hI
      obtain ⟨b, rfl, hb⟩ := hcut
      generalize wc = v3 at *
      obtain ⟨t0, d0, d1, d3⟩ := hk.out _ hb.out
      cases b with
      | true =>
        have hRY := Lib.hid (hk3.out v3 hb.out)
        go_wp2_with (refine wpList_store_row rfl 30 (.tmp 4) (.tmp 33) rfl (w.heap.size + 2) #[.slice none 0 0] rfl rfl 30 #[.slice none 0 0] hRY.out (sizeTree _ rfl) rfl hone ?_)
        refine bodyPost_ret (results_row_tmp rfl _ _ (w.heap.size + 2) 30 _ _ rfl (hRY.out.row _) Tryz.underlying30 rfl (sizeTree _ rfl)) rfl ?_
        exact hfin.out v3 42 (by decide) hb.out
      | false =>
        have i256 : ¬ (256 : Int) ≤ (n : Int) := by omega
        go_upto_region 9 with fail
        go_cut [6] (fun s6 wx => ∃ (q : Option Addr) (m1 c1 : Nat) (L : List ByteArray), s6 = .slice q m1 c1 ∧ m1 ≤ n + 1 ∧ Hid (OwnS wx w0.heap.size q m1 c1 L) ∧ Hid (Below w0.heap.size w0 wx))
        case first =>
          have hO1 := Lib.hid (fun Y (h : Below w0.heap.size w0 Y) => zorigin_any l p n c x1 Y (hk4.out Y h).1 (by omega))
          have hbd : Below w0.heap.size w0 v3.drew := hb.out.drew
          have hba : Below w0.heap.size w0 (v3.alloc (.cells #[.string x3] 9)).drew := (hb.out.alloc hb.out.size _).drew
          have hBa : Blk (v3.alloc (.cells #[.string x3] 9)).drew v3.heap.size 9 #[.string x3] := (Blk.new _ _ _).drew
          obtain ⟨a0, a1, a2, a3⟩ := hk.out _ hba
          go_region_law (first
            | (go_simp; go_at_call 41; (first | (refine (hO1.out _ hbd).mono ?_; rintro e y1 ⟨⟨q1, m1, c1, L1, rfl, hm1, ho1⟩, hy1⟩; have hbY := hbd.trans (hy1.mono hbd.size); have hoY : OwnS y1 w0.heap.size q1 m1 c1 L1 := ⟨ho1.1, own_mono ho1.2 hbd.size⟩; obtain ⟨e0, e1, e2, e3⟩ := hk.out _ hbY) | (refine (hO1.out _ hba).mono ?_; rintro e y1 ⟨⟨q1, m1, c1, L1, rfl, hm1, ho1⟩, hy1⟩; have hbY := hba.trans (hy1.mono hba.size); have hoY : OwnS y1 w0.heap.size q1 m1 c1 L1 := ⟨ho1.1, own_mono ho1.2 hba.size⟩; have hBY := hBa.below hy1 hBa.lt; obtain ⟨e0, e1, e2, e3⟩ := hk.out _ hbY)))
            | (refine step_app_str (by rfl) (.tmp 42) (.tmp 45) w0.heap.size q1 m1 c1 L1 y1.heap.size x3 (by rfl) (by rfl) (hoY.alloc _) (by rfl) (Blk.new y1 _ _) (by omega) (hbY.alloc hbY.size _).size ?_; intro q2 c2 y2 ho2 hO2; have hb9 := belowS (by exact Nat.le_refl _) (hbY.alloc hbY.size _) (hoY.alloc _) hO2)
            | (refine step_app_str (by rfl) (.tmp 42) (.tmp 45) w0.heap.size q1 m1 c1 L1 v3.heap.size x3 (by rfl) (by rfl) hoY (by rfl) hBY (by omega) hbY.size ?_; intro q2 c2 y2 ho2 hO2; have hb9 := belowS (by exact Nat.le_refl _) hbY hoY hO2))
          all_goals
            have ho2' := Lib.hid ho2
            have hb9' := Lib.hid hb9
            clear ho2 hb9 hO2 hoY hbY ho1 hy1 e0 e1 e2 e3 a0 a1 a2 a3
            go_wp2_with fail
            go_meet
            exact ⟨_, _, _, _, rfl, by omega, ho2', hb9'⟩
        case rest =>
          clear t0 d0 d1 d3
          clear hb
          obtain ⟨q6, m6, c6, L6, rfl, hm6, ho6, hb⟩ := hcut
          generalize wc = v4 at *
          obtain ⟨t0, d0, d1, d3⟩ := hk.out _ hb.out
          by_cases h7 : 7 < m6
          · have i7 : (7 : Int) < (m6 : Int) := by omega
            have hRY := Lib.hid (hk3.out v4 hb.out)
            go_wp2_with (refine wpList_store_row rfl 30 (.tmp 4) (.tmp 50) rfl (w.heap.size + 2) #[.slice none 0 0] rfl rfl 30 #[.slice none 0 0] hRY.out (sizeTree _ rfl) rfl hone ?_)
            refine bodyPost_ret (results_row_tmp rfl _ _ (w.heap.size + 2) 30 _ _ rfl (hRY.out.row _) Tryz.underlying30 rfl (sizeTree _ rfl)) rfl ?_
            exact hfin.out v4 46 (by decide) hb.out
          · have i7 : ¬ (7 : Int) < (m6 : Int) := by omega
            go_upto_block 0 with fail
            clear i7 h7 i256
            go_cut [7] (fun s7 wx => ∃ k : Nat, s7 = .int .i64 k ∧ k ≤ n ∧ Hid (Below w0.heap.size w0 wx))
            case first =>
              go_wp2_with fail
              go_loopw [7, 8] (fun s7 s8 wx => ∃ k j : Nat, s7 = .int .i64 k ∧ s8 = .int .i64 j ∧ k ≤ n ∧ j ≤ n ∧ Hid (Below v4.heap.size v4 wx)) (fun _ s8 _ => n - (intOf s8).toNat)
              case atStart => exact ⟨0, 0, rfl, rfl, by omega, by omega, (show Below v4.heap.size v4 v4 from Below.refl _ _)⟩
              case round =>
                clear t0 d0 d1 d3
                obtain ⟨k, j, rfl, rfl, hk7, hj8, hb4⟩ := hrel
                have hbV := hb
                clear hb
                have hb := Lib.hid (hbV.out.trans (hb4.out.mono hbV.out.size))
                obtain ⟨t0, d0, d1, d3⟩ := hk.out _ hb.out
                have ij0 : (0 : Int) ≤ (j : Int) := by omega
                by_cases hjn : j < n
                · have ij : (j : Int) < (n : Int) := by omega
                  obtain ⟨f, g, o, hf, rfl, hc⟩ := (hk4.out _ hb.out).1.cell (Below.refl _ _) hjn
                  have hff := Lib.hid (hsm'.out f (List.mem_of_getElem? hf))
                  have hO1 := Lib.hid (fun Y (h : Below w0.heap.size w0 Y) => zorigin_any l _ n c f.idx Y (hk4.out Y h).1 (by omega))
                  have hcY : Hid (∀ Y, Below wr.heap.size wr Y → ∀ (i : Nat) (u : Value), (devC f)[i]? = some u → Y.cell? ⟨g, o + j * 10 + i, none⟩ = some u) := fun Y h i u hu => (World.cell?_of_block (h.block g (World.block_lt_of_cell? wr ⟨g, o + j * 10 + 0, none⟩ (hc 0 _ rfl)))).trans (hc i u hu)
                  have c0 := hc 0 _ rfl
                  rw [Nat.add_zero] at c0
                  clear hc hf
                  go_upto_region 16 with fail
                  go_cut [9] (fun s9 wx => ∃ r : Int, s9 = .int .i64 r ∧ Hid (Below wr.heap.size wr wx))
                  case first =>
                    have hbd : Below w0.heap.size w0 wr.drew := hb.out.drew
                    have hb4d : Below wr.heap.size wr wr.drew := (Below.refl _ _).drew
                    go_region_law (first
                      | (go_simp; go_at_call 41; refine (hO1.out _ hbd).mono ?_; rintro e y1 ⟨⟨q1, m1, c1, L1, rfl, hm1, ho1⟩, hy1⟩; have hbY := hb4d.trans (hy1.mono hb4d.size); have hrow1 := ho1.row (by omega); have hrow6 := ((ho6.out.later hb4.out).later hbY).row (by omega))
                      | (go_simp; go_at_call 42; refine (zcompare_any L1 L6 q1 q6 m1 c1 m6 c6 _ hrow1 hrow6 (by omega) (by omega)).mono ?_; rintro e y2 ⟨⟨r, rfl⟩, hy2⟩; have hbZ := hbY.trans (hy2.mono hbY.size)))
                    all_goals
                      have hbZ' := Lib.hid hbZ
                      clear hbZ hbY hy1 hy2 ho1 hrow1 hrow6
                      go_wp2_with fail
                      go_meet
                      exact ⟨_, rfl, hbZ'⟩
                  case rest =>
                    obtain ⟨r, rfl, hbZ⟩ := hcut
                    generalize wc = y3 at *
                    clear t0 d0 d1 d3
                    have c0x := c0
                    clear c0 c0x
                    have hb5 := Lib.hid (hb.out.trans (hbZ.out.mono hb.out.size))
                    have hb45 := Lib.hid (hb4.out.trans (hbZ.out.mono hb4.out.size))
                    have hcY5 := Lib.hid (hcY.out y3 hbZ.out)
                    clear hb hb4 hcY hbZ
                    have hb := hb5
                    clear hb5
                    go_upto_region 17 with fail
                    go_cut [78] (fun s78 wx => ∃ b : Bool, s78 = .bool b ∧ Hid (Below y3.heap.size y3 wx))
                    case first =>
                      obtain ⟨t0, d0, d1, d3⟩ := hk.out _ hb.out
                      by_cases hr0 : r = 0
                      · have e0 : (r == 0) = true := by rw [beq_iff_eq]; exact hr0
                        clear hr0
                        go_quiet (fail)
                        go_wp2_with fail
                        go_meet
                        exact ⟨_, rfl, (show Below y3.heap.size y3 (y3.drewN nq) from below_drawN (Below.refl _ _) _)⟩
                      · have e0 : (r == 0) = false := beq_eq_false_iff_ne.2 hr0
                        clear hr0 t0 d0 d1 d3
                        have t0 := (hk.out _ hb.out).1
                        have c0 := hcY5.out 0 _ rfl
                        have c1 := hcY5.out 1 _ rfl
                        have c2 := hcY5.out 2 _ rfl
                        have c3 := hcY5.out 3 _ rfl
                        have c4 := hcY5.out 4 _ rfl
                        have c5 := hcY5.out 5 _ rfl
                        have c6 := hcY5.out 6 _ rfl
                        have c7 := hcY5.out 7 _ rfl
                        have c8 := hcY5.out 8 _ rfl
                        have c9 := hcY5.out 9 _ rfl
                        rw [Nat.add_zero] at c0
                        unfold Dev.atv at c9
                        have hDB := hk2.out _ hb.out
                        have u0 := hDB.cell 0
                        have u1 := hDB.cell 1
                        have u2 := hDB.cell 2
                        have u3 := hDB.cell 3
                        have u4 := hDB.cell 4
                        have u5 := hDB.cell 5
                        have u6 := hDB.cell 6
                        have u7 := hDB.cell 7
                        have u8 := hDB.cell 8
                        have u9 := hDB.cell 9
                        simp only [List.getElem?_toArray, List.getElem?_cons_zero, List.getElem?_cons_succ] at u0 u1 u2 u3 u4 u5 u6 u7 u8 u9
                        clear hDB
                        have hmd : MaxIs m y3.drew := (hk4.out _ hb.out).2
                        have hcc := Lib.hid (hcl'.out y3.drew f hff.out.2.1 hmd)
                        clear hmd
                        go_region_law (go_simp; go_at_call 43; refine hcc.out.mono ?_; rintro e y4 ⟨⟨b, rfl⟩, hy4⟩; have hbY := ((Below.refl y3.heap.size y3).drew).trans hy4)
                        all_goals
                          have hbY' := Lib.hid hbY
                          clear hbY hy4
                          go_wp2_with fail
                          go_meet
                          exact ⟨_, rfl, hbY'⟩
                    case rest =>
                      obtain ⟨b, rfl, hbx⟩ := hcut
                      generalize wc = y4 at *
                      have hb2 := Lib.hid (hb.out.trans (hbx.out.mono hb.out.size))
                      have hb6 := Lib.hid (hb45.out.trans (hbx.out.mono hb45.out.size))
                      clear hb hbx hb45 hcY5
                      have hb := hb2
                      clear hb2
                      obtain ⟨t0, d0, d1, d3⟩ := hk.out _ hb.out
                      go_upto_if 78 with fail
                      cases b with
                      | true =>
                        have hRY := Lib.hid (hk3.out y4 hb.out)
                        go_wp2_with (refine wpList_store_row rfl 30 (.tmp 4) (.tmp 79) rfl (w.heap.size + 2) #[.slice none 0 0] rfl rfl 30 #[.slice none 0 0] hRY.out (sizeTree _ rfl) rfl hone ?_)
                        refine bodyPost_ret (results_row_tmp rfl _ _ (w.heap.size + 2) 30 _ _ rfl (hRY.out.row _) Tryz.underlying30 rfl (sizeTree _ rfl)) rfl ?_
                        exact hfin.out y4 44 (by decide) hb.out
                      | false =>
                        by_cases hr1 : r < 0
                        · go_wp2_with fail
                          go_roundw
                          case rel => exact ⟨j + 1, j + 1, by go_num, by go_num, by omega, by omega, hb6⟩
                          case measure => simp [intOf]; omega
                        · go_wp2_with fail
                          go_roundw
                          case rel => exact ⟨k, j + 1, by go_num, by go_num, by omega, by omega, hb6⟩
                          case measure => simp [intOf]; omega
                · obtain rfl : j = n := by omega
                  go_wp2_with fail
                  go_meet
                  exact ⟨k, rfl, hk7, hb⟩
            case rest =>
              clear t0 d0 d1 d3
              clear hb
              obtain ⟨k, rfl, hkn, hb⟩ := hcut
              generalize wc = v5 at *
              have hG : Hid (Blk (v5.alloc (.cells #[.slice none 0 0] 30)) v5.heap.size 30 #[.slice none 0 0]) := Blk.new _ _ _
              have hb6 : Hid (Below w0.heap.size w0 (v5.alloc (.cells #[.slice none 0 0] 30))) := hb.out.alloc hb.out.size _
              have hG5 := hb.out.size
              obtain ⟨G, hGe⟩ : ∃ G, v5.heap.size = G := ⟨_, rfl⟩
              rw [hGe] at hG hG5
              have hGe' := Lib.hid hGe
              clear hGe ho6
              go_upto_region 22 with fail
              have hGl := hG.out.lt
              generalize v5.alloc (.cells #[.slice none 0 0] 30) = v6 at *
              rw [hGe'.out]
              have hS : Hid (∀ Y, Below v6.heap.size v6 Y → (Y.cell? ⟨w.heap.size, 0, none⟩ = some (.slice p n c) ∧ Y.cell? ⟨w.heap.size + 1, 0, none⟩ = some (.int .i64 x0) ∧ Y.cell? ⟨w.heap.size + 1, 1, none⟩ = some (.int .i64 x1) ∧ Y.cell? ⟨w.heap.size + 1, 2, none⟩ = some (.string x2) ∧ Y.cell? ⟨w.heap.size + 1, 3, none⟩ = some (.string x3) ∧ Y.cell? ⟨w.heap.size + 1, 4, none⟩ = some (.string x4) ∧ Y.cell? ⟨w.heap.size + 1, 5, none⟩ = some (.string x5) ∧ Y.cell? ⟨w.heap.size + 1, 6, none⟩ = some (.string x6) ∧ Y.cell? ⟨w.heap.size + 1, 7, none⟩ = some (.int .i64 x7) ∧ Y.cell? ⟨w.heap.size + 1, 8, none⟩ = some (.int .i64 x8) ∧ Y.cell? ⟨w.heap.size + 1, 9, none⟩ = some (.slice xa xn xc))) := fun Y h => by
                have hY := hb6.out.trans (h.mono hb6.out.size)
                have e := hk2.out _ hY
                exact ⟨(hk.out _ hY).1, (e.cell 0).trans rfl, (e.cell 1).trans rfl, (e.cell 2).trans rfl, (e.cell 3).trans rfl, (e.cell 4).trans rfl, (e.cell 5).trans rfl, (e.cell 6).trans rfl, (e.cell 7).trans rfl, (e.cell 8).trans rfl, (e.cell 9).trans rfl⟩
              have hSs : Hid (∀ (Y : World) (v : Value), (Y.cell? ⟨w.heap.size, 0, none⟩ = some (.slice p n c) ∧ Y.cell? ⟨w.heap.size + 1, 0, none⟩ = some (.int .i64 x0) ∧ Y.cell? ⟨w.heap.size + 1, 1, none⟩ = some (.int .i64 x1) ∧ Y.cell? ⟨w.heap.size + 1, 2, none⟩ = some (.string x2) ∧ Y.cell? ⟨w.heap.size + 1, 3, none⟩ = some (.string x3) ∧ Y.cell? ⟨w.heap.size + 1, 4, none⟩ = some (.string x4) ∧ Y.cell? ⟨w.heap.size + 1, 5, none⟩ = some (.string x5) ∧ Y.cell? ⟨w.heap.size + 1, 6, none⟩ = some (.string x6) ∧ Y.cell? ⟨w.heap.size + 1, 7, none⟩ = some (.int .i64 x7) ∧ Y.cell? ⟨w.heap.size + 1, 8, none⟩ = some (.int .i64 x8) ∧ Y.cell? ⟨w.heap.size + 1, 9, none⟩ = some (.slice xa xn xc)) → ((Y.setCell ⟨G, 0, none⟩ v).cell? ⟨w.heap.size, 0, none⟩ = some (.slice p n c) ∧ (Y.setCell ⟨G, 0, none⟩ v).cell? ⟨w.heap.size + 1, 0, none⟩ = some (.int .i64 x0) ∧ (Y.setCell ⟨G, 0, none⟩ v).cell? ⟨w.heap.size + 1, 1, none⟩ = some (.int .i64 x1) ∧ (Y.setCell ⟨G, 0, none⟩ v).cell? ⟨w.heap.size + 1, 2, none⟩ = some (.string x2) ∧ (Y.setCell ⟨G, 0, none⟩ v).cell? ⟨w.heap.size + 1, 3, none⟩ = some (.string x3) ∧ (Y.setCell ⟨G, 0, none⟩ v).cell? ⟨w.heap.size + 1, 4, none⟩ = some (.string x4) ∧ (Y.setCell ⟨G, 0, none⟩ v).cell? ⟨w.heap.size + 1, 5, none⟩ = some (.string x5) ∧ (Y.setCell ⟨G, 0, none⟩ v).cell? ⟨w.heap.size + 1, 6, none⟩ = some (.string x6) ∧ (Y.setCell ⟨G, 0, none⟩ v).cell? ⟨w.heap.size + 1, 7, none⟩ = some (.int .i64 x7) ∧ (Y.setCell ⟨G, 0, none⟩ v).cell? ⟨w.heap.size + 1, 8, none⟩ = some (.int .i64 x8) ∧ (Y.setCell ⟨G, 0, none⟩ v).cell? ⟨w.heap.size + 1, 9, none⟩ = some (.slice xa xn xc))) := fun Y v h => by
                have e : ∀ b i, b ≠ G → (Y.setCell ⟨G, 0, none⟩ v).cell? ⟨b, i, none⟩ = Y.cell? ⟨b, i, none⟩ := fun b i hb => World.cell?_of_block (Below.heap_setCell Y ⟨G, 0, none⟩ v b hb)
                simp only [e _ _ (show w.heap.size ≠ G by omega), e _ _ (show w.heap.size + 1 ≠ G by omega)]
                exact h
              have hSG : Hid (∀ Y, Below v6.heap.size v6 Y → Y.cell? ⟨G, 0, none⟩ = some (.slice none 0 0) ∧ Y.frozen? ⟨G, 0, none⟩ = false) := fun Y h => ⟨((hG.out.below h hG.out.lt).cell 0).trans rfl, (hG.out.below h hG.out.lt).frozen 0⟩
              have hRw : Hid (∀ Y, Below v6.heap.size v6 Y → RowAt Y (.slice p n c) 10 (l.map devC)) := fun Y h => (hk4.out _ (hb6.out.trans (h.mono hb6.out.size))).1.1
              have hD0 : Below v6.heap.size v6 v6 := Below.refl _ _
              have hD1 : Below v6.heap.size v6 v6.drew := hD0.drew
              have hDA : Below v6.heap.size v6 (v6.alloc (.cells #[.int .i64 x0, .int .i64 x1, .string x2, .string x3, .string x4, .string x5, .string x6, .int .i64 x7, .int .i64 x8, .slice xa xn xc] 40)).drew := (hD0.alloc (Nat.le_refl _) _).drew
              have hDA0 : Below v6.heap.size v6 (v6.alloc (.cells #[.int .i64 x0, .int .i64 x1, .string x2, .string x3, .string x4, .string x5, .string x6, .int .i64 x7, .int .i64 x8, .slice xa xn xc] 40)) := hD0.alloc (Nat.le_refl _) _
              obtain ⟨g0, f0⟩ := hSG.out _ hD0
              obtain ⟨gA, fA⟩ := hSG.out _ hDA0
              have hkc : k ≤ c := by omega
              have ik0 : (0 : Int) ≤ (k : Int) := by omega
              have ikn : (k : Int) ≤ (n : Int) := by omega
              have ikc : (k : Int) ≤ (c : Int) := by omega
              have hln2 := hln.out
              have hL1 : (l.take k).length = k := by rw [List.length_take]; omega
              have hL2 : (l.drop k).length = n - k := by rw [List.length_drop]; omega
              obtain ⟨p1y, c1y, y1, e1y, ho1y, hO1y⟩ := app_devs_run (w := v6.drew) v6.heap.size none 0 0 [] _ k _ (l.take k) hL1 (ownV_none _ _) (rows_lo (hRw.out _ hD1) hkn) k (by omega) (by omega) hD1.size
              have e1y : appDev (.slice none 0 0) (cutV p 0 k c) v6.drew = .ok (.slice p1y k c1y) y1 := e1y
              have h1y := below_nilV hD1 hO1y
              obtain ⟨p2y, c2y, y2, e2y, ho2y, hO2y⟩ := app_devs_run (w := y1.alloc (.cells #[.int .i64 x0, .int .i64 x1, .string x2, .string x3, .string x4, .string x5, .string x6, .int .i64 x7, .int .i64 x8, .slice xa xn xc] 40)) v6.heap.size p1y k c1y _ (some ⟨y1.heap.size, 0, none⟩) 1 1 [⟨x0, x1, x2, x3, x4, x5, x6, x7, x8, xa, xn, xc, xt⟩] rfl (ho1y.alloc _) (blk_dev (d := ⟨x0, x1, x2, x3, x4, x5, x6, x7, x8, xa, xn, xc, xt⟩) (Blk.new y1 _ _)) (k + 1) rfl (by omega) (h1y.alloc h1y.size _).size
              have h2y := belowV (by exact Nat.le_refl _) (h1y.alloc h1y.size _) (ho1y.alloc _) hO2y
              obtain ⟨p3y, c3y, y3, e3y, ho3y, hO3y⟩ := app_devs_run (w := y2) v6.heap.size p2y (k + 1) c2y _ _ (n - k) _ (l.drop k) hL2 ho2y (rows_hi (hRw.out _ h2y) hkn hnc) (n + 1) (by omega) (by omega) h2y.size
              have e3y : appDev (.slice p2y (k + 1) c2y) (cutV p k n c) y2 = .ok (.slice p3y (n + 1) c3y) y3 := e3y
              have h3y := belowV (by exact Nat.le_refl _) h2y ho2y hO3y
              obtain ⟨g3y, f3y⟩ := hSG.out _ h3y
              obtain ⟨p1z, c1z, z1, e1z, ho1z, hO1z⟩ := app_devs_run (w := (v6.alloc (.cells #[.int .i64 x0, .int .i64 x1, .string x2, .string x3, .string x4, .string x5, .string x6, .int .i64 x7, .int .i64 x8, .slice xa xn xc] 40)).drew) v6.heap.size none 0 0 [] _ k _ (l.take k) hL1 (ownV_none _ _) (rows_lo (hRw.out _ hDA) hkn) k (by omega) (by omega) hDA.size
              have e1z : appDev (.slice none 0 0) (cutV p 0 k c) (v6.alloc (.cells #[.int .i64 x0, .int .i64 x1, .string x2, .string x3, .string x4, .string x5, .string x6, .int .i64 x7, .int .i64 x8, .slice xa xn xc] 40)).drew = .ok (.slice p1z k c1z) z1 := e1z
              have h1z := below_nilV hDA hO1z
              have hBz := blk_nilV (Blk.new v6 40 #[.int .i64 x0, .int .i64 x1, .string x2, .string x3, .string x4, .string x5, .string x6, .int .i64 x7, .int .i64 x8, .slice xa xn xc]).drew hO1z
              obtain ⟨p2z, c2z, z2, e2z, ho2z, hO2z⟩ := app_devs_run (w := z1) v6.heap.size p1z k c1z _ (some ⟨v6.heap.size, 0, none⟩) 1 1 [⟨x0, x1, x2, x3, x4, x5, x6, x7, x8, xa, xn, xc, xt⟩] rfl ho1z (blk_dev (d := ⟨x0, x1, x2, x3, x4, x5, x6, x7, x8, xa, xn, xc, xt⟩) hBz) (k + 1) rfl (by omega) h1z.size
              have h2z := belowV (by exact Nat.le_refl _) h1z ho1z hO2z
              obtain ⟨p3z, c3z, z3, e3z, ho3z, hO3z⟩ := app_devs_run (w := z2) v6.heap.size p2z (k + 1) c2z _ _ (n - k) _ (l.drop k) hL2 ho2z (rows_hi (hRw.out _ h2z) hkn hnc) (n + 1) (by omega) (by omega) h2z.size
              have e3z : appDev (.slice p2z (k + 1) c2z) (cutV p k n c) z2 = .ok (.slice p3z (n + 1) c3z) z3 := e3z
              have h3z := belowV (by exact Nat.le_refl _) h2z ho2z hO3z
              obtain ⟨g3z, f3z⟩ := hSG.out _ h3z
              obtain ⟨s0t, s0d0, s0d1, s0d2, s0d3, s0d4, s0d5, s0d6, s0d7, s0d8, s0d9⟩ := hS.out _ hD0
              obtain ⟨sAt, sAd0, sAd1, sAd2, sAd3, sAd4, sAd5, sAd6, sAd7, sAd8, sAd9⟩ := hS.out _ hDA0
              obtain ⟨sy1t, sy1d0, sy1d1, sy1d2, sy1d3, sy1d4, sy1d5, sy1d6, sy1d7, sy1d8, sy1d9⟩ := hS.out _ h1y
              obtain ⟨syAt, syAd0, syAd1, syAd2, syAd3, syAd4, syAd5, syAd6, syAd7, syAd8, syAd9⟩ := hS.out _ (h1y.alloc h1y.size (.cells #[.int .i64 x0, .int .i64 x1, .string x2, .string x3, .string x4, .string x5, .string x6, .int .i64 x7, .int .i64 x8, .slice xa xn xc] 40))
              obtain ⟨sy2t, sy2d0, sy2d1, sy2d2, sy2d3, sy2d4, sy2d5, sy2d6, sy2d7, sy2d8, sy2d9⟩ := hS.out _ h2y
              obtain ⟨sz1t, sz1d0, sz1d1, sz1d2, sz1d3, sz1d4, sz1d5, sz1d6, sz1d7, sz1d8, sz1d9⟩ := hS.out _ h1z
              obtain ⟨sz2t, sz2d0, sz2d1, sz2d2, sz2d3, sz2d4, sz2d5, sz2d6, sz2d7, sz2d8, sz2d9⟩ := hS.out _ h2z
              have Ky1 := Lib.hid h3y
              have Ky2 := Lib.hid ho3y
              have Kz1 := Lib.hid h3z
              have Kz2 := Lib.hid ho3z
              clear ho1y hO1y ho2y hO2y ho3y hO3y ho1z hO1z ho2z hO2z ho3z hO3z h1y h2y h3y h1z h2z h3z hBz hL1 hL2 hln2
              go_region
              · skip
                have hY3 := Ky1.out
                have hown3 := Ky2.out
                have hG4 : Hid (Blk (y3.setCell ⟨G, 0, none⟩ (.slice p3y (n + 1) c3y)) G 30 #[.slice p3y (n + 1) c3y]) := (hG.out.below hY3 hG.out.lt).store 0 _
                have hR4 : Hid (Blk (y3.setCell ⟨G, 0, none⟩ (.slice p3y (n + 1) c3y)) (w.heap.size + 2) 30 #[.slice none 0 0]) := (hk3.out _ (hb6.out.trans (hY3.mono hb6.out.size))).other (by show w.heap.size + 2 ≠ G; omega) _
                have hone2 : (#[.slice p3y (n + 1) c3y] : Array Value).all (·.oneCell') = true := by simp [Value.oneCell']
                have hOf : Hid (Only (fun j => j = G ∨ j = w.heap.size + 2) y3 ((y3.setCell ⟨G, 0, none⟩ (.slice p3y (n + 1) c3y)).setRow (w.heap.size + 2) #[.slice p3y (n + 1) c3y])) := (Only.setCell (S := fun j => j = G ∨ j = w.heap.size + 2) (Only.refl _ y3) (p := ⟨G, 0, none⟩) (.inl (.inl rfl)) _).setRow (.inl (.inr rfl)) _
                have hown4 : Hid (OwnV ((y3.setCell ⟨G, 0, none⟩ (.slice p3y (n + 1) c3y)).setRow (w.heap.size + 2) #[.slice p3y (n + 1) c3y]) w.heap.size p3y (n + 1) c3y (l.take k ++ ⟨x0, x1, x2, x3, x4, x5, x6, x7, x8, xa, xn, xc, xt⟩ :: l.drop k)) := by
                  refine ⟨by rw [← hown3.1]; simp, ?_⟩
                  have h1 := own_only hown3.2 hOf.out (fun j hj e => by have := (World.ownsRow.lt hown3.2 j hj).1; omega)
                  rw [List.nil_append, List.append_assoc] at h1
                  exact own_mono h1 (by have := hb6.out.size; omega)
                have hbF : Hid (Below w.heap.size w ((y3.setCell ⟨G, 0, none⟩ (.slice p3y (n + 1) c3y)).setRow (w.heap.size + 2) #[.slice p3y (n + 1) c3y])) := (hbw.out.trans ((hb6.out.trans (hY3.mono hb6.out.size)).mono hbw.out.size)).trans (hOf.out.below (fun j hj => by omega) (by have := hY3.size; have := hb6.out.size; omega))
                clear s0t s0d0 s0d1 s0d2 s0d3 s0d4 s0d5 s0d6 s0d7 s0d8 s0d9 sAt sAd0 sAd1 sAd2 sAd3 sAd4 sAd5 sAd6 sAd7 sAd8 sAd9 sy1t sy1d0 sy1d1 sy1d2 sy1d3 sy1d4 sy1d5 sy1d6 sy1d7 sy1d8 sy1d9 syAt syAd0 syAd1 syAd2 syAd3 syAd4 syAd5 syAd6 syAd7 syAd8 syAd9 sy2t sy2d0 sy2d1 sy2d2 sy2d3 sy2d4 sy2d5 sy2d6 sy2d7 sy2d8 sy2d9 sz1t sz1d0 sz1d1 sz1d2 sz1d3 sz1d4 sz1d5 sz1d6 sz1d7 sz1d8 sz1d9 sz2t sz2d0 sz2d1 sz2d2 sz2d3 sz2d4 sz2d5 sz2d6 sz2d7 sz2d8 sz2d9
                clear hS hSs hSG hRw hD0 hD1 hDA hDA0 g0 f0 gA fA g3y f3y g3z f3z e1y e2y e3y e1z e2z e3z Ky1 Ky2 Kz1 Kz2 hY3 hown3 hk hk2 hk4 hfin hcl' hchk'
                go_wp2_with (first
                  | (refine wpList_load_row rfl 30 (.tmp 10) rfl G rfl 30 _ (0, 0) _ hG4.out Tryz.underlying30 rfl rfl ?_)
                  | (refine wpList_store_row rfl 30 (.tmp 4) (.tmp 100) rfl (w.heap.size + 2) #[.slice p3y (n + 1) c3y] rfl rfl 30 #[.slice none 0 0] hR4.out (sizeTree _ rfl) rfl hone2 ?_)
                  | fail)
                refine bodyPost_ret (results_row_tmp rfl _ _ (w.heap.size + 2) 30 _ _ rfl (hR4.out.row _) Tryz.underlying30 rfl (sizeTree _ rfl)) rfl ?_
                exact ⟨.inr ⟨k, n + 1, c3y, p3y, by have := hln.out; omega, rfl, hown4.out⟩, hbF.out⟩
              · skip
                have hY3 := Kz1.out
                have hown3 := Kz2.out
                have hG4 : Hid (Blk (z3.setCell ⟨G, 0, none⟩ (.slice p3z (n + 1) c3z)) G 30 #[.slice p3z (n + 1) c3z]) := (hG.out.below hY3 hG.out.lt).store 0 _
                have hR4 : Hid (Blk (z3.setCell ⟨G, 0, none⟩ (.slice p3z (n + 1) c3z)) (w.heap.size + 2) 30 #[.slice none 0 0]) := (hk3.out _ (hb6.out.trans (hY3.mono hb6.out.size))).other (by show w.heap.size + 2 ≠ G; omega) _
                have hone2 : (#[.slice p3z (n + 1) c3z] : Array Value).all (·.oneCell') = true := by simp [Value.oneCell']
                have hOf : Hid (Only (fun j => j = G ∨ j = w.heap.size + 2) z3 ((z3.setCell ⟨G, 0, none⟩ (.slice p3z (n + 1) c3z)).setRow (w.heap.size + 2) #[.slice p3z (n + 1) c3z])) := (Only.setCell (S := fun j => j = G ∨ j = w.heap.size + 2) (Only.refl _ z3) (p := ⟨G, 0, none⟩) (.inl (.inl rfl)) _).setRow (.inl (.inr rfl)) _
                have hown4 : Hid (OwnV ((z3.setCell ⟨G, 0, none⟩ (.slice p3z (n + 1) c3z)).setRow (w.heap.size + 2) #[.slice p3z (n + 1) c3z]) w.heap.size p3z (n + 1) c3z (l.take k ++ ⟨x0, x1, x2, x3, x4, x5, x6, x7, x8, xa, xn, xc, xt⟩ :: l.drop k)) := by
                  refine ⟨by rw [← hown3.1]; simp, ?_⟩
                  have h1 := own_only hown3.2 hOf.out (fun j hj e => by have := (World.ownsRow.lt hown3.2 j hj).1; omega)
                  rw [List.nil_append, List.append_assoc] at h1
                  exact own_mono h1 (by have := hb6.out.size; omega)
                have hbF : Hid (Below w.heap.size w ((z3.setCell ⟨G, 0, none⟩ (.slice p3z (n + 1) c3z)).setRow (w.heap.size + 2) #[.slice p3z (n + 1) c3z])) := (hbw.out.trans ((hb6.out.trans (hY3.mono hb6.out.size)).mono hbw.out.size)).trans (hOf.out.below (fun j hj => by omega) (by have := hY3.size; have := hb6.out.size; omega))
                clear s0t s0d0 s0d1 s0d2 s0d3 s0d4 s0d5 s0d6 s0d7 s0d8 s0d9 sAt sAd0 sAd1 sAd2 sAd3 sAd4 sAd5 sAd6 sAd7 sAd8 sAd9 sy1t sy1d0 sy1d1 sy1d2 sy1d3 sy1d4 sy1d5 sy1d6 sy1d7 sy1d8 sy1d9 syAt syAd0 syAd1 syAd2 syAd3 syAd4 syAd5 syAd6 syAd7 syAd8 syAd9 sy2t sy2d0 sy2d1 sy2d2 sy2d3 sy2d4 sy2d5 sy2d6 sy2d7 sy2d8 sy2d9 sz1t sz1d0 sz1d1 sz1d2 sz1d3 sz1d4 sz1d5 sz1d6 sz1d7 sz1d8 sz1d9 sz2t sz2d0 sz2d1 sz2d2 sz2d3 sz2d4 sz2d5 sz2d6 sz2d7 sz2d8 sz2d9
                clear hS hSs hSG hRw hD0 hD1 hDA hDA0 g0 f0 gA fA g3y f3y g3z f3z e1y e2y e3y e1z e2z e3z Ky1 Ky2 Kz1 Kz2 hY3 hown3 hk hk2 hk4 hfin hcl' hchk'
                go_wp2_with (first
                  | (refine wpList_load_row rfl 30 (.tmp 10) rfl G rfl 30 _ (0, 0) _ hG4.out Tryz.underlying30 rfl rfl ?_)
                  | (refine wpList_store_row rfl 30 (.tmp 4) (.tmp 100) rfl (w.heap.size + 2) #[.slice p3z (n + 1) c3z] rfl rfl 30 #[.slice none 0 0] hR4.out (sizeTree _ rfl) rfl hone2 ?_)
                  | fail)
                refine bodyPost_ret (results_row_tmp rfl _ _ (w.heap.size + 2) 30 _ _ rfl (hR4.out.row _) Tryz.underlying30 rfl (sizeTree _ rfl)) rfl ?_
                exact ⟨.inr ⟨k, n + 1, c3z, p3z, by have := hln.out; omega, rfl, hown4.out⟩, hbF.out⟩
  · have n0 : (er != 0) = true := by simpa using he0
    have hRY := Lib.hid (hk3.out v1 hb.out)
    go_wp2_with (refine wpList_store_row rfl 30 (.tmp 4) (.tmp 14) rfl (w.heap.size + 2) #[.slice none 0 0] rfl rfl 30 #[.slice none 0 0] hRY.out (sizeTree _ rfl) rfl hone ?_)
    refine bodyPost_ret (results_row_tmp rfl _ _ (w.heap.size + 2) 30 _ _ rfl (hRY.out.row _) Tryz.underlying30 rfl (sizeTree _ rfl)) rfl ?_
    exact hfin.out v1 41 (by decide) hb.out

end Go.Proofs.YtinjeijjfkkhbaaGreatDoor
