/-
  A DEVICE IN A ROW OF ITS OWN, AND DEVICES BEHIND IT: append([]api.Device{d}, l...).
  WHERE UPWARD TERMS HOLD (plain).
  THE WALK of match.Ancestor.
-/
import Derived.Test.YtinjeijjfkkhbaaGreatDoorMatchDraft
import Derived.Deep.Upon
import Derived.Deep.RegionHeld3
import Derived.Deep.DeepMust
namespace Go.Proofs.YtinjeijjfkkhbaaGreatDoor
open Go Go.RowKit Go.Maps

theorem dev_all (l : List Dev) : ∀ u ∈ (l.map devC).flatten, u.oneCell' = true := fun u hu => by
  obtain ⟨x, hx, hu⟩ := List.mem_flatten.1 hu
  obtain ⟨y, _, rfl⟩ := List.mem_map.1 hx
  exact dev_one y u hu
theorem row_one {W : World} {g : Nat} {d : Dev} (hrow : Blk W g 40 (devC d).toArray) (hd : DevAt W d) : DevsAt W (.slice (some ⟨g, 0, none⟩) 1 1) [d] := by
  refine ⟨⟨by simp, .inr ⟨g, 0, 1, rfl, hrow.lt, fun k xs hx j u hu => ?_⟩⟩, fun e he => by rw [List.mem_singleton.1 he]; exact hd⟩
  have hk : k = 0 := by
    have := (List.getElem?_eq_some_iff.1 hx).1
    simp at this
    exact this
  subst hk
  cases hx
  rw [hrow.cell]
  simpa using hu

theorem join_any (W : World) (g : Nat) (d : Dev) (V : Value) (l' : List Dev) (hrow : Blk W g 40 (devC d).toArray) (hd : DevAt W d) (hV : DevsAt W V l') (hlen : l'.length ≤ 1000) :
    ∃ p c w', appDev (.slice (some ⟨g, 0, none⟩) 1 1) V W = .ok (.slice p (l'.length + 1) c) w' ∧ DevsAt w' (.slice p (l'.length + 1) c) (d :: l') ∧ Below W.heap.size W w' := by
  obtain ⟨i, hi, hz0, hz1, hz2⟩ := info_parts info_dev
  have hone := row_one hrow hd
  rcases l' with _ | ⟨d1, l'⟩
  · have hs : Src Tryz.prog i.size 28 V 0 [] W := by
      rcases hV.1.2 with ⟨rfl, _⟩ | ⟨g', o', cap', rfl, _, _⟩
      · exact Src.ofNil W Tryz.underlying28 0
      · exact Src.ofSlice W Tryz.underlying28 _ _ _ [] (by simp) (fun j u hj => by simp at hj) (fun u hu => by cases hu)
    exact ⟨_, 1, W, run_append_nothing (P := Tryz.prog) W 28 28 28 40 i Tryz.underlying28 hi (some ⟨g, 0, none⟩) 1 1 (Nat.le_refl _) V hs, hone, Below.refl _ _⟩
  · rcases hV.1.2 with ⟨_, h0⟩ | ⟨g', o', cap', rfl, hg', hc⟩
    · cases h0
    · have hrV := hV.1
      rw [List.length_map] at hrV ⊢
      have hnews := hrV.news (dev_ten (d1 :: l'))
      have hflen := rows_length ((d1 :: l').map devC) (dev_ten (d1 :: l'))
      rw [List.length_map] at hflen
      have holds : ∀ j v, (devC d)[j]? = some v → W.cell? ((⟨g, 0, none⟩ : Addr).add j) = some v := fun j v hv => by
        rw [addr_add, Nat.zero_add, hrow.cell]
        simpa using hv
      have hr := run_append_grow (P := Tryz.prog) W 28 28 40 i _ Tryz.underlying28 hi hz0 ⟨g, 0, none⟩ 1 1 (devC d) (by rw [hz1]; rfl) holds ⟨g', o', none⟩ (d1 :: l').length cap' ((d1 :: l').map devC).flatten (by rw [hz1]; exact hflen) hnews (by simp) (by simp only [List.length_cons] at hlen ⊢; omega)
        (growslice_fits (by simp) (by rw [hz2]; simp only [List.length_cons] at hlen ⊢; omega))
      rw [Nat.add_comm 1] at hr
      obtain ⟨C, hC⟩ : ∃ C, grownCap W ((d1 :: l').length + 1) 1 40 = C := ⟨_, rfl⟩
      rw [hC] at hr
      obtain ⟨Z, hZ⟩ : ∃ Z, Builtin.zeroCells (Value.agg #[.int .i64 0, .int .i64 0, .string ⟨#[]⟩, .string ⟨#[]⟩, .string ⟨#[]⟩, .string ⟨#[]⟩, .string ⟨#[]⟩, .int .i64 0, .int .i64 0, .slice none 0 0]).cells (C - ((d1 :: l').length + 1)) = Z := ⟨_, rfl⟩
      rw [hZ] at hr
      have hb : Below W.heap.size W (W.drew.alloc (.cells ((devC d).toArray ++ ((d1 :: l').map devC).flatten.toArray ++ Z) 40)) := (Below.drew (Below.refl _ _)).alloc (Nat.le_refl _) _
      have hB : Blk (W.drew.alloc (.cells ((devC d).toArray ++ ((d1 :: l').map devC).flatten.toArray ++ Z) 40)) W.heap.size 40 ((devC d).toArray ++ ((d1 :: l').map devC).flatten.toArray ++ Z) := Blk.new_ _ _ _ rfl
      refine ⟨_, _, _, hr, ⟨⟨?_, .inr ⟨W.heap.size, 0, C, by simp, hB.lt, fun k xs hx j u hu => ?_⟩⟩, fun e he => ?_⟩, hb⟩
      · simp only [List.length_map, List.length_cons] at hlen ⊢; omega
      · have hf := rows_at ((d :: d1 :: l').map devC) (dev_ten _) k xs hx j u hu
        rw [Nat.zero_add, hB.cell]
        have hf' : ((devC d).toArray ++ ((d1 :: l').map devC).flatten.toArray).toList[k * 10 + j]? = some u := by
          simpa using hf
        have hlt := (List.getElem?_eq_some_iff.1 hf').1
        rw [Array.getElem?_append_left (by simpa using hlt)]
        rw [← Array.getElem?_toList]
        exact hf'
      · rcases List.mem_cons.1 he with rfl | he
        · exact hd.below hb
        · exact (hV.2 e he).below hb

end Go.Proofs.YtinjeijjfkkhbaaGreatDoor

namespace Go.Proofs.YtinjeijjfkkhbaaGreatDoor
open Go

/-- The first device of a list at which no upward term fails. -/
def ancR (ts : List Trm) (D : List Dev) : Int × Bool := match D.find? (fun x => !ts.any (offS x)) with
  | some x => (x.idx, true)
  | none => (0, false)
/-- The device and its ancestors. -/
def chainF (l : List Dev) (i : Int) : List Dev := match l.find? (fun d => decide (d.idx = i)) with
  | some d => d :: ancS l i
  | none => []
theorem sameD.off {d d' : Dev} (h : sameD d d') : offS d' = offS d := by
  obtain ⟨h1, h2, h3, h4, h5, h6, h7, h8, h9, h10⟩ := h
  funext t
  unfold offS devS valK
  rw [h4, h5, h6, h10]
theorem sameD.fit {d d' : Dev} (h : sameD d d') (hf : DevFit d) : DevFit d' := by
  obtain ⟨h1, h2, h3, h4, h5, h6, h7, h8, h9, h10⟩ := h
  unfold DevFit at *
  rw [h4, h5, h6, h10]
  exact hf
theorem Sames.cons {x y : Dev} {xs l : List Dev} (h : Sames xs l) (hd : sameD x y) : Sames (x :: xs) (y :: l) := by
  refine ⟨by simp [h.1], fun k d hk => ?_⟩
  cases k with
  | zero => cases hk; exact ⟨y, rfl, hd⟩
  | succ k => exact h.2 k d hk
theorem Sames.uncons {x y : Dev} {xs l : List Dev} (h : Sames (x :: xs) (y :: l)) : sameD x y ∧ Sames xs l := by
  refine ⟨?_, by have := h.1; simpa using this, fun k d hk => h.2 (k + 1) d hk⟩
  obtain ⟨d', h1, h2⟩ := h.2 0 x rfl
  cases h1
  exact h2
theorem ancR_sames (ts : List Trm) : ∀ (xs l : List Dev), Sames xs l → ancR ts l = ancR ts xs
  | [], l, h => by
    have : l = [] := List.eq_nil_of_length_eq_zero h.1
    rw [this]
  | x :: xs, l, h => by
    rcases l with _ | ⟨y, l⟩
    · have := h.1; simp at this
    · obtain ⟨h1, h2⟩ := h.uncons
      have ih := ancR_sames ts xs l h2
      unfold ancR at *
      rw [List.find?_cons, List.find?_cons, h1.off]
      cases !ts.any (offS x) with
      | true => show (y.idx, true) = (x.idx, true); rw [h1.1]
      | false => exact ih
theorem Sames.mem {xs l : List Dev} (h : Sames xs l) : ∀ y ∈ l, ∃ x ∈ xs, sameD x y := fun y hy => by
  obtain ⟨k, hk⟩ := List.getElem?_of_mem hy
  have hlt : k < xs.length := by rw [← h.1]; exact (List.getElem?_eq_some_iff.1 hk).1
  obtain ⟨d', h1, h2⟩ := h.2 k _ (List.getElem?_eq_getElem hlt)
  rw [hk] at h1
  cases h1
  exact ⟨_, List.getElem_mem hlt, h2⟩
theorem lastD_mem {l : List Dev} {i : Int} {d : Dev} (h : lastD l i = some d) : d ∈ l := by
  unfold lastD at h
  cases hl : lastIx l l.length i with
  | none => rw [hl] at h; cases h
  | some j =>
    rw [hl] at h
    exact List.mem_of_getElem? h
theorem chainD_mem (l : List Dev) : ∀ (f : Nat) (i : Int), ∀ d ∈ chainD l f i, d ∈ l
  | 0, i, d, h => by cases h
  | f + 1, i, d, h => by
    rw [chainD] at h
    split at h
    · rename_i e he
      rcases List.mem_cons.1 h with rfl | h
      · exact lastD_mem he
      · exact chainD_mem l f e.par d h
    · cases h
theorem ancS_mem {l : List Dev} {i : Int} {d : Dev} (h : d ∈ ancS l i) : d ∈ l := chainD_mem l _ _ d (List.mem_filter.1 h).1
theorem ancS_len (l : List Dev) (i : Int) : (ancS l i).length ≤ l.length := by
  unfold ancS
  exact Nat.le_trans (List.length_filter_le _ _) (chainD_len l _ _)
theorem chainF_none {l : List Dev} {i : Int} (h : ∀ x ∈ l, x.idx ≠ i) : chainF l i = [] := by
  unfold chainF
  rw [List.find?_eq_none.2 fun x hx => by simp [h x hx]]
theorem chainF_some {l : List Dev} {i : Int} {k : Nat} {d : Dev} (hk : l[k]? = some d) (hd : d.idx = i) (hb : ∀ j x, j < k → l[j]? = some x → x.idx ≠ i) : chainF l i = d :: ancS l i := by
  have : l = l.take k ++ d :: l.drop (k + 1) := by
    obtain ⟨hlt, e⟩ := List.getElem?_eq_some_iff.1 hk
    rw [← e, ← List.drop_eq_getElem_cons hlt, List.take_append_drop]
  have hf : l.find? (fun d => decide (d.idx = i)) = some d := by
    rw [this, List.find?_append, List.find?_eq_none.2 fun y hy => ?_]
    · simp [hd]
    · obtain ⟨j, hj⟩ := List.getElem?_of_mem hy
      rw [List.getElem?_take] at hj
      split at hj
      · rename_i hjk
        simp [hb j y hjk hj]
      · cases hj
  unfold chainF
  rw [hf]

theorem ancR_none {ts : List Trm} {D : List Dev} (h : ∀ j x, j < D.length → D[j]? = some x → ts.any (offS x) = true) : ancR ts D = (0, false) := by
  unfold ancR
  rw [List.find?_eq_none.2 fun x hx => ?_]
  obtain ⟨j, hj⟩ := List.getElem?_of_mem hx
  simp [h j x (List.getElem?_eq_some_iff.1 hj).1 hj]
theorem ancR_some {ts : List Trm} {D : List Dev} {k : Nat} {x : Dev} (hk : D[k]? = some x) (hb : ∀ j y, j < k → D[j]? = some y → ts.any (offS y) = true) (hx : ts.any (offS x) = false) : ancR ts D = (x.idx, true) := by
  have : D = D.take k ++ x :: D.drop (k + 1) := by
    obtain ⟨hlt, e⟩ := List.getElem?_eq_some_iff.1 hk
    rw [← e, ← List.drop_eq_getElem_cons hlt, List.take_append_drop]
  unfold ancR
  rw [this, List.find?_append, List.find?_eq_none.2 fun y hy => ?_]
  · rw [List.find?_cons, hx]; rfl
  · obtain ⟨j, hj⟩ := List.getElem?_of_mem hy
    rw [List.getElem?_take] at hj
    split at hj
    · rename_i hjk
      simp [hb j y hjk hj]
    · cases hj

/-- What an append of sealed devices leaves at a step of a region that draws. -/
theorem step_join {ops : Array Oper} {o : Oper} {a : Act} {w : World} {K : Act → World → Prop} {Q : Exit → Act → World → Prop} {E : Prop} (hgd : o.guard = none) (s x : Operand)
    (ho : o.op = .call { callee := .builtin .append, args := #[s, x], argTypes := #[28, 28] }) (hty : o.type = 28) (v y r : Value) (w' : World) (hs : a.eval s = v) (hx : a.eval x = y) (hrun : appDev v y w = .ok r w')
    (h : K (a.put o.dst r) w') : if Region.wanted o (yielded ops a.tmps) = true then Oper.wp Tryz.prog o a w K Q else E := by
  have hw : Region.wanted o (yielded ops a.tmps) = true := by simp [Region.wanted, hgd]
  rw [if_pos hw]
  unfold appDev at hrun
  unfold Oper.wp execOp
  simp only [ho, hty, resolve, invoke, builtin, Sem.run_bind, Sem.run_pure, Result.andThen_ok, List.map_toArray, List.map_cons, List.map_nil, hs, hx, hrun]
  exact h

end Go.Proofs.YtinjeijjfkkhbaaGreatDoor

namespace Go.Proofs.YtinjeijjfkkhbaaGreatDoor
open Go Go.RowKit Go.Maps

set_option maxRecDepth 100000 in
set_option maxHeartbeats 4000000 in
theorem ancestor_any (ts : List Trm) (tv : Value) (l : List Dev) (p : Option Addr) (N c : Nat) (i : Int) (w : World) (hl : DevsAt w (.slice p N c) l) (hN : l.length = N) (hNb : N ≤ 1000) (hwf : ∀ d ∈ l, Wf d.idx ∧ Wf d.par) (hsz : ∀ d ∈ l, d.orig.size ≤ 1000000) (hok : ∀ d ∈ l, Neat d.att d.aa d.an d.ac) (hwi : Wf i)
    (hts : TrmsAt w tv ts) (htv : ∀ t ∈ ts, t.v.size ≤ 9223372036854775807) (hfit : ∀ d ∈ l, DevFit d) :
    Calls Tryz.prog 9 #[tv, .agg #[.slice p N c], .int .i64 i] w fun e w' => e = .returned (.tuple #[.int .i64 (ancR ts (chainF l i)).1, .bool (ancR ts (chainF l i)).2]) ∧ Below w.heap.size w w' := by
  have hF := Lib.hid (fun W (h : Below w.heap.size w W) => find_any l p N c i W (hl.below h) hok)
  have hA := Lib.hid (fun W (h : Below w.heap.size w W) => anc_any l p N c i W (hl.below h) hN hNb hwf hsz hok hwi)
  obtain ⟨R, hR⟩ : ∃ R, ancR ts (chainF l i) = R := ⟨_, rfl⟩
  rw [hR]
  have hR' := Lib.hid hR; clear hR
  have hC := Lib.hid (fun (x : Dev) (cb : Nat) W (h : Below w.heap.size w W) (hx : DevAt W x) (hf : DevFit x) (hcb : Blk W cb 40 (devC x).toArray) => containsT_any ts tv (offS x) cb W (RowAt.below hts h) fun t ht W2 h2 => off_any x t cb W2 (hx.below h2) hf (htv t ht) (hcb.below h2 hcb.lt))
  have hfit' := Lib.hid hfit; clear hfit
  have hNb' := Lib.hid hNb
  have hN' := Lib.hid hN
  clear hl hwf hsz hok hwi hts htv hNb hN
  have hb0 : Hid (Below w.heap.size w (w.alloc (.cells #[.slice p N c] 30))) := (Below.refl _ _).alloc (Nat.le_refl _) _
  have hT0 : Hid (Blk (w.alloc (.cells #[.slice p N c] 30)) w.heap.size 30 #[.slice p N c]) := Blk.new _ _ _
  go_enter Tryz.func9, Tryz.ntmps9
  go_wp2_with fail
  generalize w.alloc (.cells #[.slice p N c] 30) = w1 at *
  refine (hF.out _ hb0.out).mono ?_
  rintro e w2 ⟨hp, hb1⟩
  have hT2 := Lib.hid (hT0.out.below hb1 hT0.out.lt)
  have hb2 := Lib.hid (hb0.out.trans (hb1.mono hb0.out.size))
  clear hb0 hT0 hb1 hF
  have hltT := hT2.out.lt
  rcases hp with ⟨hno, rfl⟩ | ⟨k, d, d', hk, hd, hno, hsame, hok, hlow, rfl⟩
  · obtain rfl : R = (0, false) := by rw [← hR'.out, chainF_none hno]; rfl
    have hB3 : Hid (Below w.heap.size w (w2.alloc (.cells #[.int .i64 0, .int .i64 0, .string ⟨#[]⟩, .string ⟨#[]⟩, .string ⟨#[]⟩, .string ⟨#[]⟩, .string ⟨#[]⟩, .int .i64 0, .int .i64 0, .slice none 0 0] 40))) := hb2.out.alloc hb2.out.size _
    clear hR' hno hA hC
    unfold zeroDev
    go_wp2_with fail
    first | go_ret | go_ret2
    exact ⟨rfl, hB3.out⟩
  · have hch := chainF_some hk hd hno
    have hdl : d ∈ l := List.mem_of_getElem? hk
    have hfd := hsame.fit (hfit'.out d hdl)
    have hR2 : Hid (∀ l', Sames (ancS l i) l' → ancR ts (d' :: l') = R) := fun l' h => by
      rw [← hR'.out, hch]
      exact ancR_sames ts _ _ (h.cons hsame)
    have hfD : Hid (∀ l', Sames (ancS l i) l' → ∀ x ∈ d' :: l', DevFit x) := fun l' h x hx => by
      rcases List.mem_cons.1 hx with rfl | hx
      · exact hfd
      · obtain ⟨y, hy, hs⟩ := h.mem x hx
        exact hs.fit (hfit'.out y (ancS_mem hy))
    have hlD : Hid (∀ l', Sames (ancS l i) l' → l'.length ≤ 1000) := fun l' h => by
      have h1 := h.1
      have h2 := ancS_len l i
      have h3 := hN'.out
      have h4 := hNb'.out
      omega
    clear hR' hch hk hd hno hsame hfd hfit' hN' hNb' hdl
    obtain ⟨x0, x1, x2, x3, x4, x5, x6, x7, x8, xa, xn, xc, xt⟩ := d'
    unfold devV
    simp only at hlow ⊢
    have hlow2 : ∀ x, xa = some x → x.block < w2.heap.size := fun x hx => by
      obtain ⟨cs, t, fr, h⟩ := hok.cells hx
      exact (Array.getElem?_eq_some_iff.1 h).1
    have hB3 : Hid (Below w.heap.size w (w2.alloc (.cells #[.int .i64 x0, .int .i64 x1, .string x2, .string x3, .string x4, .string x5, .string x6, .int .i64 x7, .int .i64 x8, .slice xa xn xc] 40))) := hb2.out.alloc hb2.out.size _
    have hD3 : Hid (Blk (w2.alloc (.cells #[.int .i64 x0, .int .i64 x1, .string x2, .string x3, .string x4, .string x5, .string x6, .int .i64 x7, .int .i64 x8, .slice xa xn xc] 40)) w2.heap.size 40 #[.int .i64 x0, .int .i64 x1, .string x2, .string x3, .string x4, .string x5, .string x6, .int .i64 x7, .int .i64 x8, .slice xa xn xc]) := Blk.new _ _ _
    have hT3 : Hid (Blk (w2.alloc (.cells #[.int .i64 x0, .int .i64 x1, .string x2, .string x3, .string x4, .string x5, .string x6, .int .i64 x7, .int .i64 x8, .slice xa xn xc] 40)) w.heap.size 30 #[.slice p N c]) := hT2.out.alloc _
    have hok3 : Hid (DevAt (w2.alloc (.cells #[.int .i64 x0, .int .i64 x1, .string x2, .string x3, .string x4, .string x5, .string x6, .int .i64 x7, .int .i64 x8, .slice xa xn xc] 40)) ⟨x0, x1, x2, x3, x4, x5, x6, x7, x8, xa, xn, xc, xt⟩) := (hok.below ((Below.refl _ _).alloc (Nat.le_refl _) _)).1
    clear hok hlow hlow2 hb2 hT2
    go_upto_region 4 with fail
    generalize w2.alloc (.cells #[.int .i64 x0, .int .i64 x1, .string x2, .string x3, .string x4, .string x5, .string x6, .int .i64 x7, .int .i64 x8, .slice xa xn xc] 40) = w3 at *
    obtain ⟨G, hG⟩ : ∃ G, w2.heap.size = G := ⟨_, rfl⟩
    rw [hG] at hD3 ⊢
    clear hG
    go_cut [25, 26, 27] (fun s25 s26 s27 wx => ∃ (q : Option Addr) (n qc : Nat) (E : List Dev), s25 = .slice q n qc ∧ s26 = .int .i64 n ∧ s27 = .int .i64 0 ∧ n ≤ 1001 ∧ Hid (E.length = n) ∧ Hid (DevsAt wx (.slice q n qc) E) ∧ Hid (Below w.heap.size w wx) ∧ Hid (ancR ts E = R) ∧ Hid (∀ x ∈ E, DevFit x))
    case first =>
      have hkS : Hid (∀ y, Below w3.heap.size w3 y → (Below w3.heap.size w3 y ∧ y.cell? ⟨G, 0, none⟩ = some (.int .i64 x0) ∧ y.cell? ⟨G, 1, none⟩ = some (.int .i64 x1) ∧ y.cell? ⟨G, 2, none⟩ = some (.string x2) ∧ y.cell? ⟨G, 3, none⟩ = some (.string x3) ∧ y.cell? ⟨G, 4, none⟩ = some (.string x4) ∧ y.cell? ⟨G, 5, none⟩ = some (.string x5) ∧ y.cell? ⟨G, 6, none⟩ = some (.string x6) ∧ y.cell? ⟨G, 7, none⟩ = some (.int .i64 x7) ∧ y.cell? ⟨G, 8, none⟩ = some (.int .i64 x8) ∧ y.cell? ⟨G, 9, none⟩ = some (.slice xa xn xc) ∧ y.cell? ⟨w.heap.size, 0, none⟩ = some (.slice p N c))) := fun y h => by
        have e := hD3.out.below h hD3.out.lt
        exact ⟨h, (e.cell 0).trans rfl, (e.cell 1).trans rfl, (e.cell 2).trans rfl, (e.cell 3).trans rfl, (e.cell 4).trans rfl, (e.cell 5).trans rfl, (e.cell 6).trans rfl, (e.cell 7).trans rfl, (e.cell 8).trans rfl, (e.cell 9).trans rfl, ((hT3.out.below h hT3.out.lt).cell 0).trans rfl⟩
      have hS0 : (Below w3.heap.size w3 w3 ∧ w3.cell? ⟨G, 0, none⟩ = some (.int .i64 x0) ∧ w3.cell? ⟨G, 1, none⟩ = some (.int .i64 x1) ∧ w3.cell? ⟨G, 2, none⟩ = some (.string x2) ∧ w3.cell? ⟨G, 3, none⟩ = some (.string x3) ∧ w3.cell? ⟨G, 4, none⟩ = some (.string x4) ∧ w3.cell? ⟨G, 5, none⟩ = some (.string x5) ∧ w3.cell? ⟨G, 6, none⟩ = some (.string x6) ∧ w3.cell? ⟨G, 7, none⟩ = some (.int .i64 x7) ∧ w3.cell? ⟨G, 8, none⟩ = some (.int .i64 x8) ∧ w3.cell? ⟨G, 9, none⟩ = some (.slice xa xn xc) ∧ w3.cell? ⟨w.heap.size, 0, none⟩ = some (.slice p N c)) := hkS.out _ (Below.refl _ _)
      have hb1 : Below w3.heap.size w3 w3.drew := Below.drew (Below.refl _ _)
      have hS1 : (Below w3.heap.size w3 w3.drew ∧ w3.drew.cell? ⟨G, 0, none⟩ = some (.int .i64 x0) ∧ w3.drew.cell? ⟨G, 1, none⟩ = some (.int .i64 x1) ∧ w3.drew.cell? ⟨G, 2, none⟩ = some (.string x2) ∧ w3.drew.cell? ⟨G, 3, none⟩ = some (.string x3) ∧ w3.drew.cell? ⟨G, 4, none⟩ = some (.string x4) ∧ w3.drew.cell? ⟨G, 5, none⟩ = some (.string x5) ∧ w3.drew.cell? ⟨G, 6, none⟩ = some (.string x6) ∧ w3.drew.cell? ⟨G, 7, none⟩ = some (.int .i64 x7) ∧ w3.drew.cell? ⟨G, 8, none⟩ = some (.int .i64 x8) ∧ w3.drew.cell? ⟨G, 9, none⟩ = some (.slice xa xn xc) ∧ w3.drew.cell? ⟨w.heap.size, 0, none⟩ = some (.slice p N c)) := hkS.out _ hb1
      have hbA : Below w3.heap.size w3 (w3.drew.alloc (.cells #[.int .i64 x0, .int .i64 x1, .string x2, .string x3, .string x4, .string x5, .string x6, .int .i64 x7, .int .i64 x8, .slice xa xn xc] 40)) := hb1.alloc (Nat.le_refl _) _
      have hSA : (Below w3.heap.size w3 (w3.drew.alloc (.cells #[.int .i64 x0, .int .i64 x1, .string x2, .string x3, .string x4, .string x5, .string x6, .int .i64 x7, .int .i64 x8, .slice xa xn xc] 40)) ∧ (w3.drew.alloc (.cells #[.int .i64 x0, .int .i64 x1, .string x2, .string x3, .string x4, .string x5, .string x6, .int .i64 x7, .int .i64 x8, .slice xa xn xc] 40)).cell? ⟨G, 0, none⟩ = some (.int .i64 x0) ∧ (w3.drew.alloc (.cells #[.int .i64 x0, .int .i64 x1, .string x2, .string x3, .string x4, .string x5, .string x6, .int .i64 x7, .int .i64 x8, .slice xa xn xc] 40)).cell? ⟨G, 1, none⟩ = some (.int .i64 x1) ∧ (w3.drew.alloc (.cells #[.int .i64 x0, .int .i64 x1, .string x2, .string x3, .string x4, .string x5, .string x6, .int .i64 x7, .int .i64 x8, .slice xa xn xc] 40)).cell? ⟨G, 2, none⟩ = some (.string x2) ∧ (w3.drew.alloc (.cells #[.int .i64 x0, .int .i64 x1, .string x2, .string x3, .string x4, .string x5, .string x6, .int .i64 x7, .int .i64 x8, .slice xa xn xc] 40)).cell? ⟨G, 3, none⟩ = some (.string x3) ∧ (w3.drew.alloc (.cells #[.int .i64 x0, .int .i64 x1, .string x2, .string x3, .string x4, .string x5, .string x6, .int .i64 x7, .int .i64 x8, .slice xa xn xc] 40)).cell? ⟨G, 4, none⟩ = some (.string x4) ∧ (w3.drew.alloc (.cells #[.int .i64 x0, .int .i64 x1, .string x2, .string x3, .string x4, .string x5, .string x6, .int .i64 x7, .int .i64 x8, .slice xa xn xc] 40)).cell? ⟨G, 5, none⟩ = some (.string x5) ∧ (w3.drew.alloc (.cells #[.int .i64 x0, .int .i64 x1, .string x2, .string x3, .string x4, .string x5, .string x6, .int .i64 x7, .int .i64 x8, .slice xa xn xc] 40)).cell? ⟨G, 6, none⟩ = some (.string x6) ∧ (w3.drew.alloc (.cells #[.int .i64 x0, .int .i64 x1, .string x2, .string x3, .string x4, .string x5, .string x6, .int .i64 x7, .int .i64 x8, .slice xa xn xc] 40)).cell? ⟨G, 7, none⟩ = some (.int .i64 x7) ∧ (w3.drew.alloc (.cells #[.int .i64 x0, .int .i64 x1, .string x2, .string x3, .string x4, .string x5, .string x6, .int .i64 x7, .int .i64 x8, .slice xa xn xc] 40)).cell? ⟨G, 8, none⟩ = some (.int .i64 x8) ∧ (w3.drew.alloc (.cells #[.int .i64 x0, .int .i64 x1, .string x2, .string x3, .string x4, .string x5, .string x6, .int .i64 x7, .int .i64 x8, .slice xa xn xc] 40)).cell? ⟨G, 9, none⟩ = some (.slice xa xn xc) ∧ (w3.drew.alloc (.cells #[.int .i64 x0, .int .i64 x1, .string x2, .string x3, .string x4, .string x5, .string x6, .int .i64 x7, .int .i64 x8, .slice xa xn xc] 40)).cell? ⟨w.heap.size, 0, none⟩ = some (.slice p N c)) := hkS.out _ hbA
      have hJA : Hid (∀ y1 V l', Sames (ancS l i) l' → DevsAt y1 V l' → Below (w3.drew.alloc (.cells #[.int .i64 x0, .int .i64 x1, .string x2, .string x3, .string x4, .string x5, .string x6, .int .i64 x7, .int .i64 x8, .slice xa xn xc] 40)).heap.size (w3.drew.alloc (.cells #[.int .i64 x0, .int .i64 x1, .string x2, .string x3, .string x4, .string x5, .string x6, .int .i64 x7, .int .i64 x8, .slice xa xn xc] 40)) y1 → ∃ p2 c2 w5, appDev (.slice (some ⟨w3.heap.size, 0, none⟩) 1 1) V y1 = .ok (.slice p2 (l'.length + 1) c2) w5 ∧ Hid (DevsAt w5 (.slice p2 (l'.length + 1) c2) (⟨x0, x1, x2, x3, x4, x5, x6, x7, x8, xa, xn, xc, xt⟩ :: l') ∧ Below w.heap.size w w5) ∧ (Below w3.heap.size w3 y1 ∧ y1.cell? ⟨G, 0, none⟩ = some (.int .i64 x0) ∧ y1.cell? ⟨G, 1, none⟩ = some (.int .i64 x1) ∧ y1.cell? ⟨G, 2, none⟩ = some (.string x2) ∧ y1.cell? ⟨G, 3, none⟩ = some (.string x3) ∧ y1.cell? ⟨G, 4, none⟩ = some (.string x4) ∧ y1.cell? ⟨G, 5, none⟩ = some (.string x5) ∧ y1.cell? ⟨G, 6, none⟩ = some (.string x6) ∧ y1.cell? ⟨G, 7, none⟩ = some (.int .i64 x7) ∧ y1.cell? ⟨G, 8, none⟩ = some (.int .i64 x8) ∧ y1.cell? ⟨G, 9, none⟩ = some (.slice xa xn xc) ∧ y1.cell? ⟨w.heap.size, 0, none⟩ = some (.slice p N c)) ∧ (Below w3.heap.size w3 w5 ∧ w5.cell? ⟨G, 0, none⟩ = some (.int .i64 x0) ∧ w5.cell? ⟨G, 1, none⟩ = some (.int .i64 x1) ∧ w5.cell? ⟨G, 2, none⟩ = some (.string x2) ∧ w5.cell? ⟨G, 3, none⟩ = some (.string x3) ∧ w5.cell? ⟨G, 4, none⟩ = some (.string x4) ∧ w5.cell? ⟨G, 5, none⟩ = some (.string x5) ∧ w5.cell? ⟨G, 6, none⟩ = some (.string x6) ∧ w5.cell? ⟨G, 7, none⟩ = some (.int .i64 x7) ∧ w5.cell? ⟨G, 8, none⟩ = some (.int .i64 x8) ∧ w5.cell? ⟨G, 9, none⟩ = some (.slice xa xn xc) ∧ w5.cell? ⟨w.heap.size, 0, none⟩ = some (.slice p N c))) := fun y1 V l' hs hV hy1 => by
        have hby : Below w3.heap.size w3 y1 := hbA.trans (hy1.mono hbA.size)
        have hrow : Blk (w3.drew.alloc (.cells #[.int .i64 x0, .int .i64 x1, .string x2, .string x3, .string x4, .string x5, .string x6, .int .i64 x7, .int .i64 x8, .slice xa xn xc] 40)) w3.heap.size 40 (devC ⟨x0, x1, x2, x3, x4, x5, x6, x7, x8, xa, xn, xc, xt⟩).toArray := Blk.new_ _ _ _ rfl
        obtain ⟨p2, c2, w5, h1, h2, h3⟩ := join_any y1 w3.heap.size ⟨x0, x1, x2, x3, x4, x5, x6, x7, x8, xa, xn, xc, xt⟩ V l' (hrow.below hy1 hrow.lt) (hok3.out.below hby) hV (hlD.out l' hs)
        have hb5 : Below w3.heap.size w3 w5 := hby.trans (h3.mono hby.size)
        exact ⟨p2, c2, w5, h1, ⟨h2, hB3.out.trans (hb5.mono hB3.out.size)⟩, hkS.out _ hby, hkS.out _ hb5⟩
      have hJB : Hid (∀ y1 V l', Sames (ancS l i) l' → DevsAt y1 V l' → Below w3.drew.heap.size w3.drew y1 → ∃ p2 c2 w5, appDev (.slice (some ⟨y1.heap.size, 0, none⟩) 1 1) V (y1.alloc (.cells #[.int .i64 x0, .int .i64 x1, .string x2, .string x3, .string x4, .string x5, .string x6, .int .i64 x7, .int .i64 x8, .slice xa xn xc] 40)) = .ok (.slice p2 (l'.length + 1) c2) w5 ∧ Hid (DevsAt w5 (.slice p2 (l'.length + 1) c2) (⟨x0, x1, x2, x3, x4, x5, x6, x7, x8, xa, xn, xc, xt⟩ :: l') ∧ Below w.heap.size w w5) ∧ (Below w3.heap.size w3 y1 ∧ y1.cell? ⟨G, 0, none⟩ = some (.int .i64 x0) ∧ y1.cell? ⟨G, 1, none⟩ = some (.int .i64 x1) ∧ y1.cell? ⟨G, 2, none⟩ = some (.string x2) ∧ y1.cell? ⟨G, 3, none⟩ = some (.string x3) ∧ y1.cell? ⟨G, 4, none⟩ = some (.string x4) ∧ y1.cell? ⟨G, 5, none⟩ = some (.string x5) ∧ y1.cell? ⟨G, 6, none⟩ = some (.string x6) ∧ y1.cell? ⟨G, 7, none⟩ = some (.int .i64 x7) ∧ y1.cell? ⟨G, 8, none⟩ = some (.int .i64 x8) ∧ y1.cell? ⟨G, 9, none⟩ = some (.slice xa xn xc) ∧ y1.cell? ⟨w.heap.size, 0, none⟩ = some (.slice p N c)) ∧ (Below w3.heap.size w3 (y1.alloc (.cells #[.int .i64 x0, .int .i64 x1, .string x2, .string x3, .string x4, .string x5, .string x6, .int .i64 x7, .int .i64 x8, .slice xa xn xc] 40)) ∧ (y1.alloc (.cells #[.int .i64 x0, .int .i64 x1, .string x2, .string x3, .string x4, .string x5, .string x6, .int .i64 x7, .int .i64 x8, .slice xa xn xc] 40)).cell? ⟨G, 0, none⟩ = some (.int .i64 x0) ∧ (y1.alloc (.cells #[.int .i64 x0, .int .i64 x1, .string x2, .string x3, .string x4, .string x5, .string x6, .int .i64 x7, .int .i64 x8, .slice xa xn xc] 40)).cell? ⟨G, 1, none⟩ = some (.int .i64 x1) ∧ (y1.alloc (.cells #[.int .i64 x0, .int .i64 x1, .string x2, .string x3, .string x4, .string x5, .string x6, .int .i64 x7, .int .i64 x8, .slice xa xn xc] 40)).cell? ⟨G, 2, none⟩ = some (.string x2) ∧ (y1.alloc (.cells #[.int .i64 x0, .int .i64 x1, .string x2, .string x3, .string x4, .string x5, .string x6, .int .i64 x7, .int .i64 x8, .slice xa xn xc] 40)).cell? ⟨G, 3, none⟩ = some (.string x3) ∧ (y1.alloc (.cells #[.int .i64 x0, .int .i64 x1, .string x2, .string x3, .string x4, .string x5, .string x6, .int .i64 x7, .int .i64 x8, .slice xa xn xc] 40)).cell? ⟨G, 4, none⟩ = some (.string x4) ∧ (y1.alloc (.cells #[.int .i64 x0, .int .i64 x1, .string x2, .string x3, .string x4, .string x5, .string x6, .int .i64 x7, .int .i64 x8, .slice xa xn xc] 40)).cell? ⟨G, 5, none⟩ = some (.string x5) ∧ (y1.alloc (.cells #[.int .i64 x0, .int .i64 x1, .string x2, .string x3, .string x4, .string x5, .string x6, .int .i64 x7, .int .i64 x8, .slice xa xn xc] 40)).cell? ⟨G, 6, none⟩ = some (.string x6) ∧ (y1.alloc (.cells #[.int .i64 x0, .int .i64 x1, .string x2, .string x3, .string x4, .string x5, .string x6, .int .i64 x7, .int .i64 x8, .slice xa xn xc] 40)).cell? ⟨G, 7, none⟩ = some (.int .i64 x7) ∧ (y1.alloc (.cells #[.int .i64 x0, .int .i64 x1, .string x2, .string x3, .string x4, .string x5, .string x6, .int .i64 x7, .int .i64 x8, .slice xa xn xc] 40)).cell? ⟨G, 8, none⟩ = some (.int .i64 x8) ∧ (y1.alloc (.cells #[.int .i64 x0, .int .i64 x1, .string x2, .string x3, .string x4, .string x5, .string x6, .int .i64 x7, .int .i64 x8, .slice xa xn xc] 40)).cell? ⟨G, 9, none⟩ = some (.slice xa xn xc) ∧ (y1.alloc (.cells #[.int .i64 x0, .int .i64 x1, .string x2, .string x3, .string x4, .string x5, .string x6, .int .i64 x7, .int .i64 x8, .slice xa xn xc] 40)).cell? ⟨w.heap.size, 0, none⟩ = some (.slice p N c)) ∧ (Below w3.heap.size w3 w5 ∧ w5.cell? ⟨G, 0, none⟩ = some (.int .i64 x0) ∧ w5.cell? ⟨G, 1, none⟩ = some (.int .i64 x1) ∧ w5.cell? ⟨G, 2, none⟩ = some (.string x2) ∧ w5.cell? ⟨G, 3, none⟩ = some (.string x3) ∧ w5.cell? ⟨G, 4, none⟩ = some (.string x4) ∧ w5.cell? ⟨G, 5, none⟩ = some (.string x5) ∧ w5.cell? ⟨G, 6, none⟩ = some (.string x6) ∧ w5.cell? ⟨G, 7, none⟩ = some (.int .i64 x7) ∧ w5.cell? ⟨G, 8, none⟩ = some (.int .i64 x8) ∧ w5.cell? ⟨G, 9, none⟩ = some (.slice xa xn xc) ∧ w5.cell? ⟨w.heap.size, 0, none⟩ = some (.slice p N c))) := fun y1 V l' hs hV hy1 => by
        have hby : Below w3.heap.size w3 y1 := hb1.trans hy1
        have hrow : Blk (y1.alloc (.cells #[.int .i64 x0, .int .i64 x1, .string x2, .string x3, .string x4, .string x5, .string x6, .int .i64 x7, .int .i64 x8, .slice xa xn xc] 40)) y1.heap.size 40 (devC ⟨x0, x1, x2, x3, x4, x5, x6, x7, x8, xa, xn, xc, xt⟩).toArray := Blk.new_ _ _ _ rfl
        have hbz : Below w3.heap.size w3 (y1.alloc (.cells #[.int .i64 x0, .int .i64 x1, .string x2, .string x3, .string x4, .string x5, .string x6, .int .i64 x7, .int .i64 x8, .slice xa xn xc] 40)) := hby.alloc hby.size _
        obtain ⟨p2, c2, w5, h1, h2, h3⟩ := join_any (y1.alloc (.cells #[.int .i64 x0, .int .i64 x1, .string x2, .string x3, .string x4, .string x5, .string x6, .int .i64 x7, .int .i64 x8, .slice xa xn xc] 40)) y1.heap.size ⟨x0, x1, x2, x3, x4, x5, x6, x7, x8, xa, xn, xc, xt⟩ V l' hrow (hok3.out.below hbz) (hV.below ((Below.refl _ _).alloc (Nat.le_refl _) _)) (hlD.out l' hs)
        have hb5 : Below w3.heap.size w3 w5 := hbz.trans (h3.mono hbz.size)
        exact ⟨p2, c2, w5, h1, ⟨h2, hB3.out.trans (hb5.mono hB3.out.size)⟩, hkS.out _ hby, hkS.out _ hbz, hkS.out _ hb5⟩
      have hAA : Hid (Calls Tryz.prog 12 #[.agg #[.slice p N c], .int .i64 i] (w3.drew.alloc (.cells #[.int .i64 x0, .int .i64 x1, .string x2, .string x3, .string x4, .string x5, .string x6, .int .i64 x7, .int .i64 x8, .slice xa xn xc] 40)) fun e w' => (∃ V l', e = .returned V ∧ DevsAt w' V l' ∧ Sames (ancS l i) l' ∧ ∀ d ∈ l', Neat d.att d.aa d.an d.ac) ∧ Below (w3.drew.alloc (.cells #[.int .i64 x0, .int .i64 x1, .string x2, .string x3, .string x4, .string x5, .string x6, .int .i64 x7, .int .i64 x8, .slice xa xn xc] 40)).heap.size (w3.drew.alloc (.cells #[.int .i64 x0, .int .i64 x1, .string x2, .string x3, .string x4, .string x5, .string x6, .int .i64 x7, .int .i64 x8, .slice xa xn xc] 40)) w') := hA.out _ (hB3.out.trans (hbA.mono hB3.out.size))
      have hAB : Hid (Calls Tryz.prog 12 #[.agg #[.slice p N c], .int .i64 i] w3.drew fun e w' => (∃ V l', e = .returned V ∧ DevsAt w' V l' ∧ Sames (ancS l i) l' ∧ ∀ d ∈ l', Neat d.att d.aa d.an d.ac) ∧ Below w3.drew.heap.size w3.drew w') := hA.out _ (Below.drew hB3.out)
      clear hb1 hbA hkS hA hC hB3 hD3 hT3 hok3
      (first | (go_must (go_region_held3 (fun Y => Below w3.heap.size w3 Y ∧ Y.cell? ⟨G, 0, none⟩ = some (.int .i64 x0) ∧ Y.cell? ⟨G, 1, none⟩ = some (.int .i64 x1) ∧ Y.cell? ⟨G, 2, none⟩ = some (.string x2) ∧ Y.cell? ⟨G, 3, none⟩ = some (.string x3) ∧ Y.cell? ⟨G, 4, none⟩ = some (.string x4) ∧ Y.cell? ⟨G, 5, none⟩ = some (.string x5) ∧ Y.cell? ⟨G, 6, none⟩ = some (.string x6) ∧ Y.cell? ⟨G, 7, none⟩ = some (.int .i64 x7) ∧ Y.cell? ⟨G, 8, none⟩ = some (.int .i64 x8) ∧ Y.cell? ⟨G, 9, none⟩ = some (.slice xa xn xc) ∧ Y.cell? ⟨w.heap.size, 0, none⟩ = some (.slice p N c))
        ((first | exact hS0 | exact hS1 | exact hSA | exact hq1 | exact hq2 | exact hq3))
        (first
          | (go_at_call 12; refine hAA.out.mono ?_; rintro e y1 ⟨⟨V, l', rfl, hV, hs, _⟩, hy1⟩; obtain ⟨p2, c2, w5, hrun, hdev, hq1, hq3⟩ := hJA.out y1 V l' hs hV hy1)
          | (go_at_call 12; refine hAB.out.mono ?_; rintro e y1 ⟨⟨V, l', rfl, hV, hs, _⟩, hy1⟩; obtain ⟨p2, c2, w5, hrun, hdev, hq1, hq2, hq3⟩ := hJB.out y1 V l' hs hV hy1)
          | (refine step_join (by rfl) (.tmp 21) (.tmp 24) (by rfl) (by rfl) _ _ _ _ (by simp [Act.eval]) (by simp [Act.eval]) hrun ?_)
          | fail))) | fail)
      all_goals
        have hs' := Lib.hid hs
        clear hS0 hS1 hSA hJA hJB hAA hAB hV hs hrun hy1 hq1 hq3
        go_wp2_with fail
        go_meet
        case rel => exact ⟨p2, l'.length + 1, c2, _, rfl, by simp, rfl, by have := hlD.out l' hs'.out; omega, (rfl : (⟨x0, x1, x2, x3, x4, x5, x6, x7, x8, xa, xn, xc, xt⟩ :: l').length = _), hdev.out.1, hdev.out.2, hR2.out l' hs'.out, hfD.out l' hs'.out⟩
    case rest =>
      obtain ⟨q, n, qc, E, rfl, rfl, rfl, hn, hE, hDE, hBE, hRE, hFE⟩ := hcut
      clear hR2 hfD hlD hA hB3 hD3 hT3 hok3
      rcases hDE.out.1.2 with ⟨e0, h0⟩ | ⟨g, o, cap, e0, hg, hcells⟩
      · have hE0 : E = [] := List.map_eq_nil_iff.1 h0
        injection e0 with e1 e2 e3
        subst e1 e2 e3
        obtain rfl : R = (0, false) := by rw [← hRE.out, hE0]; rfl
        clear hDE hRE hFE hE hE0 h0 hC
        go_wp2_with fail
        go_loopw [27] (fun s27 wr => s27 = .int .i64 0 ∧ Hid (Below w.heap.size w wr)) (fun _ _ => 0)
        case atStart => exact ⟨rfl, hBE⟩
        case round =>
          obtain ⟨rfl, hb⟩ := hrel
          go_wp2_with fail
          first | go_ret | go_ret2
          exact ⟨rfl, hb.out⟩
      · rw [List.length_map, hE.out] at e0
        injection e0 with e1 e2 e3
        subst e1 e3
        have hcells' : Hid (∀ (k : Nat) (x : Dev), E[k]? = some x → ∀ (j : Nat) (u : Value), (devC x)[j]? = some u → wc.cell? ⟨g, o + k * 10 + j, none⟩ = some u) := fun k x hx => hcells k (devC x) (by rw [List.getElem?_map, hx]; rfl)
        have hda : Hid (∀ x ∈ E, DevAt wc x) := hDE.out.2
        clear hcells hDE
        go_wp2_with fail
        go_loopw [27] (fun s27 wr => ∃ k : Nat, s27 = .int .i64 k ∧ k ≤ n ∧ Hid (Below wc.heap.size wc wr) ∧ Hid (∀ j x, j < k → E[j]? = some x → ts.any (offS x) = true)) (fun s27 _ => n - (intOf s27).toNat)
        case atStart => exact ⟨0, rfl, by omega, Below.refl _ _, fun j x hj => by omega⟩
        case round =>
          obtain ⟨k, rfl, hk, hb', hno⟩ := hrel
          have hbw : Hid (Below w.heap.size w wr) := hBE.out.trans (hb'.out.mono hBE.out.size)
          by_cases hkn : k < n
          · obtain ⟨x, hx⟩ : ∃ x, E[k]? = some x := ⟨_, List.getElem?_eq_getElem (by have := hE.out; omega)⟩
            have e : ∀ i, wr.cell? ⟨g, i, none⟩ = wc.cell? ⟨g, i, none⟩ := fun i => World.cell?_of_block (hb'.out.block g hg)
            have hc := hcells'.out k x hx
            simp only [← e] at hc
            have c0 : wr.cell? ⟨g, o + k * 10, none⟩ = some (.int .i64 x.idx) := hc 0 _ rfl
            have c1 := hc 1 _ rfl
            have c2 := hc 2 _ rfl
            have c3 := hc 3 _ rfl
            have c4 := hc 4 _ rfl
            have c5 := hc 5 _ rfl
            have c6 := hc 6 _ rfl
            have c7 := hc 7 _ rfl
            have c8 := hc 8 _ rfl
            have c9 := hc 9 _ rfl
            have hmem : x ∈ E := List.mem_of_getElem? hx
            have hbx : Below w.heap.size w (wr.alloc (.cells (devC x).toArray 40)) := hbw.out.alloc hbw.out.size _
            have hxa : DevAt (wr.alloc (.cells (devC x).toArray 40)) x := ((hda.out x hmem).below hb'.out).below ((Below.refl _ _).alloc (Nat.le_refl _) _)
            have hCC := hC.out x wr.heap.size _ hbx hxa (hFE.out x hmem) (Blk.new _ _ _)
            have hbc : Hid (Below wc.heap.size wc (wr.alloc (.cells (devC x).toArray 40))) := hb'.out.alloc hb'.out.size _
            have hXB : Hid (Blk (wr.alloc (.cells (devC x).toArray 40)) wr.heap.size 40 (devC x).toArray) := Blk.new _ _ _
            have hbx' := Lib.hid hbx
            obtain ⟨b, hpb⟩ : ∃ b, ts.any (offS x) = b := ⟨_, rfl⟩
            rw [hpb] at hCC
            have hfin : Hid (b = false → R = (x.idx, true)) := fun h => by rw [← hRE.out]; exact ancR_some hx hno.out (by rw [hpb, h])
            have hgo : Hid (b = true → ∀ j y, j < k + 1 → E[j]? = some y → ts.any (offS y) = true) := fun h j y hj hy => by
              rcases Nat.lt_or_ge j k with h2 | h2
              · exact hno.out j y h2 hy
              · obtain rfl : j = k := by omega
                rw [hx] at hy
                cases hy
                rw [hpb, h]
            have hCC' := Lib.hid hCC
            have ik : (k : Int) < (n : Int) := by omega
            have ik0 : (0 : Int) ≤ (k : Int) := by omega
            have ik1 : ¬ (k : Int) < 0 := by omega
            clear hCC hbx hxa hc e hpb hx hmem hno
            obtain ⟨x0, x1, x2, x3, x4, x5, x6, x7, x8, xa, xn, xc, xt⟩ := x
            unfold devC Dev.atv at hCC' hbc hXB hbx'
            simp only [Dev.atv] at c0 c1 c2 c3 c4 c5 c6 c7 c8 c9 hCC' hbc hXB hbx' hfin
            go_wp2_with fail
            refine hCC'.out.mono ?_
            rintro e v1 ⟨rfl, hb1⟩
            have hv1 := Lib.hid (hbc.out.trans (hb1.mono hbc.out.size))
            have hw1 := Lib.hid (hbx'.out.trans (hb1.mono hbx'.out.size))
            have hX1 := hXB.out.below hb1 hXB.out.lt
            have f0 := hX1.cell 0
            simp only [List.getElem?_toArray, List.getElem?_cons_zero] at f0
            clear hb1 hX1 hbc hXB hbx' hCC'
            cases b with
            | false =>
              obtain rfl := hfin.out rfl
              clear hfin hgo hRE
              go_wp2_with fail
              first | go_ret2 | go_ret
              exact ⟨rfl, hw1.out⟩
            | true =>
              have hg2 := Lib.hid (hgo.out rfl)
              clear hfin hgo
              go_wp2_with fail
              go_roundw
              case rel => exact ⟨k + 1, by go_num, by omega, hv1, hg2⟩
              case measure => simp [intOf]; omega
          · obtain rfl : k = n := by omega
            obtain rfl : R = (0, false) := by rw [← hRE.out]; exact ancR_none fun j x hj hx => hno.out j x (by have := hE.out; omega) hx
            clear hRE hno
            go_wp2_with fail
            first | go_ret2 | go_ret
            exact ⟨rfl, hbw.out⟩

end Go.Proofs.YtinjeijjfkkhbaaGreatDoor
