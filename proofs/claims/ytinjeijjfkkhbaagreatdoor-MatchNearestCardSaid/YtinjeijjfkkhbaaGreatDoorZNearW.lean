/-
  THE WALK of coldpluglaw12.MatchNearest: it answers true.
-/
import Derived.Test.YtinjeijjfkkhbaaGreatDoorZTree
import Derived.Test.YtinjeijjfkkhbaaGreatDoorZUp
import Derived.Test.YtinjeijjfkkhbaaGreatDoorZRefAnc
import Derived.Test.YtinjeijjfkkhbaaGreatDoorMatchKnown
namespace Go.Proofs.YtinjeijjfkkhbaaGreatDoor
open Go Go.RowKit Go.Maps

theorem wf_sm {i : Int} (h1 : -1 ≤ i) (h2 : i ≤ 1000) : Wf i := by
  show (Lit.int .i64 i).wf = true
  simp [Lit.wf, IntKind.min, IntKind.max, IntKind.bits, IntKind.signed]
  omega

set_option maxRecDepth 100000 in
set_option maxHeartbeats 80000000 in
theorem nearest_walk (a0 : Option Addr) (len0 cap0 : Nat) (m : Int) (w : World) (h0 : 0 < len0 → ∃ x : Addr, a0 = some x ∧ ∀ i, i < len0 → ∃ z : Int, w.cell? (x.add i) = some (.int .i64 z)) (hm : MaxIs m w) :
    Calls Tryz.prog 4 #[.slice a0 len0 cap0] w fun e w' => e = .returned (.bool true) ∧ Below w.heap.size w w' := by
  have h0lt : 0 < w.heap.size := hm.lt
  have hT0 : Hid (Tape (w.alloc (.cells #[.slice a0 len0 cap0, .int .i64 0] 27)) w.heap.size w.heap.size 0) := tape_new a0 len0 cap0 w h0
  have hb0 : Below w.heap.size w (w.alloc (.cells #[.slice a0 len0 cap0, .int .i64 0] 27)) := (Below.refl _ _).alloc (Nat.le_refl _) _
  have hO0 : Hid (Only (fun j => j = w.heap.size) w (w.alloc (.cells #[.slice a0 len0 cap0, .int .i64 0] 27))) := (Only.refl _ _).alloc _
  have hm0 : Hid (MaxIs m (w.alloc (.cells #[.slice a0 len0 cap0, .int .i64 0] 27))) := hm.below hb0
  have hkeep : Hid (∀ W, Only (fun j => j = w.heap.size) w W → Below w.heap.size w W) := fun W h => h.below (fun k e => by omega) (Nat.le_refl _)
  have hK := Lib.hid (fun W => mknown_any W)
  clear h0 hm hb0
  go_enter Tryz.func4, Tryz.ntmps4
  go_upto_region 2 with fail
  generalize w.alloc (.cells #[.slice a0 len0 cap0, .int .i64 0] 27) = w1 at *
  have hC := Lib.hid (ztree_any w.heap.size w.heap.size 0 m w1 hT0.out (by omega) hm0.out h0lt)
  go_wp2_with fail
  refine hC.out.mono ?_
  rintro e x1 ⟨p, N, c, l, q, rfl, htree, hq, hTx, hOx⟩
  have hO1 := Lib.hid ((hO0.out.trans hOx).alloc (.cells #[.slice p N c] 30))
  have hb1 : Below x1.heap.size x1 (x1.alloc (.cells #[.slice p N c] 30)) := (Below.refl _ _).alloc (Nat.le_refl _) _
  have hT1 : Hid (Tape (x1.alloc (.cells #[.slice p N c] 30)) w.heap.size w.heap.size q) := hTx.below hb1
  have htr : Hid (TreeOk (x1.alloc (.cells #[.slice p N c] 30)) w.heap.size 9 p N c l) := htree.below hb1
  have hX : Hid (Blk (x1.alloc (.cells #[.slice p N c] 30)) x1.heap.size 30 #[.slice p N c]) := Blk.new _ _ _
  have hlt1 : w.heap.size < x1.heap.size := hTx.lt.2
  clear hC hT0 hO0 hm0 hTx hOx hb1 htree
  go_upto_region 3 with fail
  generalize hte : x1.heap.size = tb at *
  generalize x1.alloc (.cells #[.slice p N c] 30) = y1 at *
  clear hte
  have cX := hX.out.cell 0
  simp only [List.getElem?_toArray, List.getElem?_cons_zero] at cX
  have hC := Lib.hid (zsome_any w.heap.size w.heap.size q p N c l y1 htr.out hT1.out (by omega))
  go_wp2_with fail
  refine hC.out.mono ?_
  rintro e x2 ⟨i, q2, rfl, hi1, hi2, hq2, hTx, hOx⟩
  have hO2 := Lib.hid (hO1.out.trans hOx)
  have hT2 := Lib.hid hTx
  have htr2 := Lib.hid (htr.out.only hOx)
  have hX2 := Lib.hid (hX.out.only hOx (by omega))
  clear hC hTx hOx hO1 hT1 htr hX cX
  have hC := Lib.hid (zup_any w.heap.size w.heap.size q2 x2 hT2.out (by omega))
  go_wp2_with fail
  refine hC.out.mono ?_
  rintro e wb ⟨V, ts, q3, rfl, hus, hul, husz, hV, hq3, hTx, hOx⟩
  obtain ⟨ua, uc, rfl⟩ := hus.shape
  obtain ⟨un, hun⟩ : ∃ un, ts.length = un := ⟨_, rfl⟩
  rw [hun] at hus hV hul ⊢
  have hW0 := Lib.hid (hkeep.out _ (hO2.out.trans hOx))
  have htr3 := Lib.hid (htr2.out.only hOx)
  have hX3 := Lib.hid (hX2.out.only hOx (by omega))
  have hus' := Lib.hid hus
  have husz' : Hid (∀ t ∈ ts, t.v.size ≤ 9223372036854775807) := fun t ht => by have := husz t ht; omega
  have hun' := Lib.hid hun
  clear hC hTx hOx hO2 hT2 htr2 hX2 hus husz hun hV hkeep
  have hf := htr3.out.few
  have hNb : N ≤ 1000 := by omega
  have hwf : Hid (∀ d ∈ l, Wf d.idx ∧ Wf d.par) := fun d hd => by
    have h1 := htr3.out.each d hd
    have h2 := htr3.out.sound.2 d hd
    exact ⟨wf_sm (by omega) (by omega), wf_sm (by omega) (by omega)⟩
  have hsz : Hid (∀ d ∈ l, d.orig.size ≤ 1000000) := fun d hd => by
    have := (htr3.out.each d hd).1.1.2.1
    omega
  have hok : Hid (∀ d ∈ l, Neat d.att d.aa d.an d.ac) := fun d hd => (htr3.out.each d hd).1.2.2.2
  have hfit' : Hid (∀ d ∈ l, DevFit d) := fun d hd => (htr3.out.each d hd).1.2.1
  have hwi : Wf i := wf_sm hi1 (by omega)
  have hC := ancestor_any ts (.slice ua un uc) l p N c i wb htr3.out.devs htr3.out.len hNb hwf.out hsz.out hok.out hwi hus'.out husz'.out hfit'.out
  have hF := Lib.hid (fun W (h : Below wb.heap.size wb W) => find_any l p N c i W (htr3.out.devs.below h) hok.out)
  have hA := Lib.hid (fun W (h : Below wb.heap.size wb W) => anc_any l p N c i W (htr3.out.devs.below h) htr3.out.len hNb hwf.out hsz.out hok.out hwi)
  obtain ⟨R, hR⟩ : ∃ R, ancR ts (chainF l i) = R := ⟨_, rfl⟩
  rw [hR] at hC
  have hR' := Lib.hid hR
  have hC' := Lib.hid hC
  have hN' : Hid (l.length = N) := htr3.out.len
  have hNb' := Lib.hid hNb
  clear hC hR hwf hsz hok hwi htr3 hf hNb
  have cX := hX3.out.cell 0
  simp only [List.getElem?_toArray, List.getElem?_cons_zero] at cX
  go_wp2_with fail
  refine hC'.out.mono ?_
  rintro e w4 ⟨rfl, hb4⟩
  have hb4' := Lib.hid hb4
  have hX4 := Lib.hid (hX3.out.below hb4 hX3.out.lt)
  clear hb4 hX3 cX hC'
  have cX := hX4.out.cell 0
  simp only [List.getElem?_toArray, List.getElem?_cons_zero] at cX
  go_wp2_with fail
  refine (hF.out _ hb4'.out).mono ?_
  rintro e w2 ⟨hp, hb1⟩
  have hT2 := Lib.hid (hX4.out.below hb1 hX4.out.lt)
  have hb2 := Lib.hid (hb4'.out.trans (hb1.mono hb4'.out.size))
  clear hX4 cX hb1 hF hb4'
  have hltT := hT2.out.lt
  rcases hp with ⟨hno, rfl⟩ | ⟨k, d, d', hk, hd, hno, hsame, hok, hlow, rfl⟩
  · obtain rfl : R = (0, false) := by rw [← hR'.out, chainF_none hno]; rfl
    have hB3 : Hid (Below wb.heap.size wb (w2.alloc (.cells #[.int .i64 0, .int .i64 0, .string ⟨#[]⟩, .string ⟨#[]⟩, .string ⟨#[]⟩, .string ⟨#[]⟩, .string ⟨#[]⟩, .int .i64 0, .int .i64 0, .slice none 0 0] 40))) := hb2.out.alloc hb2.out.size _
    clear hR' hno hA
    unfold zeroDev
    go_wp2_with fail
    refine (hK.out _).mono ?_
    rintro e v9 ⟨rfl, hb9⟩
    have hB9 := hW0.out.trans ((hB3.out.trans (hb9.mono hB3.out.size)).mono hW0.out.size)
    clear hb9 hB3
    go_wp2_with fail
    first | go_ret | go_ret2
    exact ⟨rfl, hB9⟩
  · have hch := chainF_some hk hd hno
    have hdl : d ∈ l := List.mem_of_getElem? hk
    have hfd := hsame.fit (hfit'.out d hdl)
    have hR2 : Hid (∀ l', Sames (ancS l i) l' → ancR ts (d' :: l') = R) := fun l' h => by
      rw [← hR'.out, hch]
      exact ancR_sames ts _ _ (h.cons hsame)
    have hfD : Hid (∀ l', Sames (ancS l i) l' → ∀ x ∈ d' :: l', DevFit x) := fun l' h x hx => by
      rcases List.mem_cons.1 hx with rfl | hx
      · exact hfd
      · obtain ⟨y, hy, hs⟩ := h.mem x hx
        exact hs.fit (hfit'.out y (ancS_mem hy))
    have hlD : Hid (∀ l', Sames (ancS l i) l' → l'.length ≤ 1000) := fun l' h => by
      have h1 := h.1
      have h2 := ancS_len l i
      have h3 := hN'.out
      have h4 := hNb'.out
      omega
    clear hR' hch hk hd hno hsame hfd hfit' hN' hNb' hdl
    obtain ⟨x0, x1, x2, x3, x4, x5, x6, x7, x8, xa, xn, xc, xt⟩ := d'
    unfold devV
    simp only at hlow ⊢
    have hlow2 : ∀ x, xa = some x → x.block < w2.heap.size := fun x hx => by
      obtain ⟨cs, t, fr, h⟩ := hok.cells hx
      exact (Array.getElem?_eq_some_iff.1 h).1
    have hB3 : Hid (Below wb.heap.size wb (w2.alloc (.cells #[.int .i64 x0, .int .i64 x1, .string x2, .string x3, .string x4, .string x5, .string x6, .int .i64 x7, .int .i64 x8, .slice xa xn xc] 40))) := hb2.out.alloc hb2.out.size _
    have hD3 : Hid (Blk (w2.alloc (.cells #[.int .i64 x0, .int .i64 x1, .string x2, .string x3, .string x4, .string x5, .string x6, .int .i64 x7, .int .i64 x8, .slice xa xn xc] 40)) w2.heap.size 40 #[.int .i64 x0, .int .i64 x1, .string x2, .string x3, .string x4, .string x5, .string x6, .int .i64 x7, .int .i64 x8, .slice xa xn xc]) := Blk.new _ _ _
    have hT3 : Hid (Blk (w2.alloc (.cells #[.int .i64 x0, .int .i64 x1, .string x2, .string x3, .string x4, .string x5, .string x6, .int .i64 x7, .int .i64 x8, .slice xa xn xc] 40)) tb 30 #[.slice p N c]) := hT2.out.alloc _
    have hok3 : Hid (DevAt (w2.alloc (.cells #[.int .i64 x0, .int .i64 x1, .string x2, .string x3, .string x4, .string x5, .string x6, .int .i64 x7, .int .i64 x8, .slice xa xn xc] 40)) ⟨x0, x1, x2, x3, x4, x5, x6, x7, x8, xa, xn, xc, xt⟩) := (hok.below ((Below.refl _ _).alloc (Nat.le_refl _) _)).1
    clear hok hlow hlow2 hb2 hT2
    go_upto_region 9 with fail
    generalize w2.alloc (.cells #[.int .i64 x0, .int .i64 x1, .string x2, .string x3, .string x4, .string x5, .string x6, .int .i64 x7, .int .i64 x8, .slice xa xn xc] 40) = w3 at *
    obtain ⟨G, hG⟩ : ∃ G, w2.heap.size = G := ⟨_, rfl⟩
    rw [hG] at hD3 ⊢
    clear hG
    go_cut [11] (fun s11 wx => ∃ (q : Option Addr) (n qc : Nat) (E : List Dev), s11 = .slice q n qc ∧ n ≤ 1001 ∧ Hid (E.length = n) ∧ Hid (DevsAt wx (.slice q n qc) E) ∧ Hid (Below wb.heap.size wb wx) ∧ Hid (ancR ts E = R) ∧ Hid (∀ x ∈ E, DevFit x))
    case first =>
      have hkS : Hid (∀ y, Below w3.heap.size w3 y → (Below w3.heap.size w3 y ∧ y.cell? ⟨G, 0, none⟩ = some (.int .i64 x0) ∧ y.cell? ⟨G, 1, none⟩ = some (.int .i64 x1) ∧ y.cell? ⟨G, 2, none⟩ = some (.string x2) ∧ y.cell? ⟨G, 3, none⟩ = some (.string x3) ∧ y.cell? ⟨G, 4, none⟩ = some (.string x4) ∧ y.cell? ⟨G, 5, none⟩ = some (.string x5) ∧ y.cell? ⟨G, 6, none⟩ = some (.string x6) ∧ y.cell? ⟨G, 7, none⟩ = some (.int .i64 x7) ∧ y.cell? ⟨G, 8, none⟩ = some (.int .i64 x8) ∧ y.cell? ⟨G, 9, none⟩ = some (.slice xa xn xc) ∧ y.cell? ⟨tb, 0, none⟩ = some (.slice p N c))) := fun y h => by
        have e := hD3.out.below h hD3.out.lt
        exact ⟨h, (e.cell 0).trans rfl, (e.cell 1).trans rfl, (e.cell 2).trans rfl, (e.cell 3).trans rfl, (e.cell 4).trans rfl, (e.cell 5).trans rfl, (e.cell 6).trans rfl, (e.cell 7).trans rfl, (e.cell 8).trans rfl, (e.cell 9).trans rfl, ((hT3.out.below h hT3.out.lt).cell 0).trans rfl⟩
      have hS0 : (Below w3.heap.size w3 w3 ∧ w3.cell? ⟨G, 0, none⟩ = some (.int .i64 x0) ∧ w3.cell? ⟨G, 1, none⟩ = some (.int .i64 x1) ∧ w3.cell? ⟨G, 2, none⟩ = some (.string x2) ∧ w3.cell? ⟨G, 3, none⟩ = some (.string x3) ∧ w3.cell? ⟨G, 4, none⟩ = some (.string x4) ∧ w3.cell? ⟨G, 5, none⟩ = some (.string x5) ∧ w3.cell? ⟨G, 6, none⟩ = some (.string x6) ∧ w3.cell? ⟨G, 7, none⟩ = some (.int .i64 x7) ∧ w3.cell? ⟨G, 8, none⟩ = some (.int .i64 x8) ∧ w3.cell? ⟨G, 9, none⟩ = some (.slice xa xn xc) ∧ w3.cell? ⟨tb, 0, none⟩ = some (.slice p N c)) := hkS.out _ (Below.refl _ _)
      have hb1 : Below w3.heap.size w3 w3.drew := Below.drew (Below.refl _ _)
      have hS1 : (Below w3.heap.size w3 w3.drew ∧ w3.drew.cell? ⟨G, 0, none⟩ = some (.int .i64 x0) ∧ w3.drew.cell? ⟨G, 1, none⟩ = some (.int .i64 x1) ∧ w3.drew.cell? ⟨G, 2, none⟩ = some (.string x2) ∧ w3.drew.cell? ⟨G, 3, none⟩ = some (.string x3) ∧ w3.drew.cell? ⟨G, 4, none⟩ = some (.string x4) ∧ w3.drew.cell? ⟨G, 5, none⟩ = some (.string x5) ∧ w3.drew.cell? ⟨G, 6, none⟩ = some (.string x6) ∧ w3.drew.cell? ⟨G, 7, none⟩ = some (.int .i64 x7) ∧ w3.drew.cell? ⟨G, 8, none⟩ = some (.int .i64 x8) ∧ w3.drew.cell? ⟨G, 9, none⟩ = some (.slice xa xn xc) ∧ w3.drew.cell? ⟨tb, 0, none⟩ = some (.slice p N c)) := hkS.out _ hb1
      have hbA : Below w3.heap.size w3 (w3.drew.alloc (.cells #[.int .i64 x0, .int .i64 x1, .string x2, .string x3, .string x4, .string x5, .string x6, .int .i64 x7, .int .i64 x8, .slice xa xn xc] 40)) := hb1.alloc (Nat.le_refl _) _
      have hSA : (Below w3.heap.size w3 (w3.drew.alloc (.cells #[.int .i64 x0, .int .i64 x1, .string x2, .string x3, .string x4, .string x5, .string x6, .int .i64 x7, .int .i64 x8, .slice xa xn xc] 40)) ∧ (w3.drew.alloc (.cells #[.int .i64 x0, .int .i64 x1, .string x2, .string x3, .string x4, .string x5, .string x6, .int .i64 x7, .int .i64 x8, .slice xa xn xc] 40)).cell? ⟨G, 0, none⟩ = some (.int .i64 x0) ∧ (w3.drew.alloc (.cells #[.int .i64 x0, .int .i64 x1, .string x2, .string x3, .string x4, .string x5, .string x6, .int .i64 x7, .int .i64 x8, .slice xa xn xc] 40)).cell? ⟨G, 1, none⟩ = some (.int .i64 x1) ∧ (w3.drew.alloc (.cells #[.int .i64 x0, .int .i64 x1, .string x2, .string x3, .string x4, .string x5, .string x6, .int .i64 x7, .int .i64 x8, .slice xa xn xc] 40)).cell? ⟨G, 2, none⟩ = some (.string x2) ∧ (w3.drew.alloc (.cells #[.int .i64 x0, .int .i64 x1, .string x2, .string x3, .string x4, .string x5, .string x6, .int .i64 x7, .int .i64 x8, .slice xa xn xc] 40)).cell? ⟨G, 3, none⟩ = some (.string x3) ∧ (w3.drew.alloc (.cells #[.int .i64 x0, .int .i64 x1, .string x2, .string x3, .string x4, .string x5, .string x6, .int .i64 x7, .int .i64 x8, .slice xa xn xc] 40)).cell? ⟨G, 4, none⟩ = some (.string x4) ∧ (w3.drew.alloc (.cells #[.int .i64 x0, .int .i64 x1, .string x2, .string x3, .string x4, .string x5, .string x6, .int .i64 x7, .int .i64 x8, .slice xa xn xc] 40)).cell? ⟨G, 5, none⟩ = some (.string x5) ∧ (w3.drew.alloc (.cells #[.int .i64 x0, .int .i64 x1, .string x2, .string x3, .string x4, .string x5, .string x6, .int .i64 x7, .int .i64 x8, .slice xa xn xc] 40)).cell? ⟨G, 6, none⟩ = some (.string x6) ∧ (w3.drew.alloc (.cells #[.int .i64 x0, .int .i64 x1, .string x2, .string x3, .string x4, .string x5, .string x6, .int .i64 x7, .int .i64 x8, .slice xa xn xc] 40)).cell? ⟨G, 7, none⟩ = some (.int .i64 x7) ∧ (w3.drew.alloc (.cells #[.int .i64 x0, .int .i64 x1, .string x2, .string x3, .string x4, .string x5, .string x6, .int .i64 x7, .int .i64 x8, .slice xa xn xc] 40)).cell? ⟨G, 8, none⟩ = some (.int .i64 x8) ∧ (w3.drew.alloc (.cells #[.int .i64 x0, .int .i64 x1, .string x2, .string x3, .string x4, .string x5, .string x6, .int .i64 x7, .int .i64 x8, .slice xa xn xc] 40)).cell? ⟨G, 9, none⟩ = some (.slice xa xn xc) ∧ (w3.drew.alloc (.cells #[.int .i64 x0, .int .i64 x1, .string x2, .string x3, .string x4, .string x5, .string x6, .int .i64 x7, .int .i64 x8, .slice xa xn xc] 40)).cell? ⟨tb, 0, none⟩ = some (.slice p N c)) := hkS.out _ hbA
      have hJA : Hid (∀ y1 V l', Sames (ancS l i) l' → DevsAt y1 V l' → Below (w3.drew.alloc (.cells #[.int .i64 x0, .int .i64 x1, .string x2, .string x3, .string x4, .string x5, .string x6, .int .i64 x7, .int .i64 x8, .slice xa xn xc] 40)).heap.size (w3.drew.alloc (.cells #[.int .i64 x0, .int .i64 x1, .string x2, .string x3, .string x4, .string x5, .string x6, .int .i64 x7, .int .i64 x8, .slice xa xn xc] 40)) y1 → ∃ p2 c2 w5, appDev (.slice (some ⟨w3.heap.size, 0, none⟩) 1 1) V y1 = .ok (.slice p2 (l'.length + 1) c2) w5 ∧ Hid (DevsAt w5 (.slice p2 (l'.length + 1) c2) (⟨x0, x1, x2, x3, x4, x5, x6, x7, x8, xa, xn, xc, xt⟩ :: l') ∧ Below wb.heap.size wb w5) ∧ (Below w3.heap.size w3 y1 ∧ y1.cell? ⟨G, 0, none⟩ = some (.int .i64 x0) ∧ y1.cell? ⟨G, 1, none⟩ = some (.int .i64 x1) ∧ y1.cell? ⟨G, 2, none⟩ = some (.string x2) ∧ y1.cell? ⟨G, 3, none⟩ = some (.string x3) ∧ y1.cell? ⟨G, 4, none⟩ = some (.string x4) ∧ y1.cell? ⟨G, 5, none⟩ = some (.string x5) ∧ y1.cell? ⟨G, 6, none⟩ = some (.string x6) ∧ y1.cell? ⟨G, 7, none⟩ = some (.int .i64 x7) ∧ y1.cell? ⟨G, 8, none⟩ = some (.int .i64 x8) ∧ y1.cell? ⟨G, 9, none⟩ = some (.slice xa xn xc) ∧ y1.cell? ⟨tb, 0, none⟩ = some (.slice p N c)) ∧ (Below w3.heap.size w3 w5 ∧ w5.cell? ⟨G, 0, none⟩ = some (.int .i64 x0) ∧ w5.cell? ⟨G, 1, none⟩ = some (.int .i64 x1) ∧ w5.cell? ⟨G, 2, none⟩ = some (.string x2) ∧ w5.cell? ⟨G, 3, none⟩ = some (.string x3) ∧ w5.cell? ⟨G, 4, none⟩ = some (.string x4) ∧ w5.cell? ⟨G, 5, none⟩ = some (.string x5) ∧ w5.cell? ⟨G, 6, none⟩ = some (.string x6) ∧ w5.cell? ⟨G, 7, none⟩ = some (.int .i64 x7) ∧ w5.cell? ⟨G, 8, none⟩ = some (.int .i64 x8) ∧ w5.cell? ⟨G, 9, none⟩ = some (.slice xa xn xc) ∧ w5.cell? ⟨tb, 0, none⟩ = some (.slice p N c))) := fun y1 V l' hs hV hy1 => by
        have hby : Below w3.heap.size w3 y1 := hbA.trans (hy1.mono hbA.size)
        have hrow : Blk (w3.drew.alloc (.cells #[.int .i64 x0, .int .i64 x1, .string x2, .string x3, .string x4, .string x5, .string x6, .int .i64 x7, .int .i64 x8, .slice xa xn xc] 40)) w3.heap.size 40 (devC ⟨x0, x1, x2, x3, x4, x5, x6, x7, x8, xa, xn, xc, xt⟩).toArray := Blk.new_ _ _ _ rfl
        obtain ⟨p2, c2, w5, h1, h2, h3⟩ := join_any y1 w3.heap.size ⟨x0, x1, x2, x3, x4, x5, x6, x7, x8, xa, xn, xc, xt⟩ V l' (hrow.below hy1 hrow.lt) (hok3.out.below hby) hV (hlD.out l' hs)
        have hb5 : Below w3.heap.size w3 w5 := hby.trans (h3.mono hby.size)
        exact ⟨p2, c2, w5, h1, ⟨h2, hB3.out.trans (hb5.mono hB3.out.size)⟩, hkS.out _ hby, hkS.out _ hb5⟩
      have hJB : Hid (∀ y1 V l', Sames (ancS l i) l' → DevsAt y1 V l' → Below w3.drew.heap.size w3.drew y1 → ∃ p2 c2 w5, appDev (.slice (some ⟨y1.heap.size, 0, none⟩) 1 1) V (y1.alloc (.cells #[.int .i64 x0, .int .i64 x1, .string x2, .string x3, .string x4, .string x5, .string x6, .int .i64 x7, .int .i64 x8, .slice xa xn xc] 40)) = .ok (.slice p2 (l'.length + 1) c2) w5 ∧ Hid (DevsAt w5 (.slice p2 (l'.length + 1) c2) (⟨x0, x1, x2, x3, x4, x5, x6, x7, x8, xa, xn, xc, xt⟩ :: l') ∧ Below wb.heap.size wb w5) ∧ (Below w3.heap.size w3 y1 ∧ y1.cell? ⟨G, 0, none⟩ = some (.int .i64 x0) ∧ y1.cell? ⟨G, 1, none⟩ = some (.int .i64 x1) ∧ y1.cell? ⟨G, 2, none⟩ = some (.string x2) ∧ y1.cell? ⟨G, 3, none⟩ = some (.string x3) ∧ y1.cell? ⟨G, 4, none⟩ = some (.string x4) ∧ y1.cell? ⟨G, 5, none⟩ = some (.string x5) ∧ y1.cell? ⟨G, 6, none⟩ = some (.string x6) ∧ y1.cell? ⟨G, 7, none⟩ = some (.int .i64 x7) ∧ y1.cell? ⟨G, 8, none⟩ = some (.int .i64 x8) ∧ y1.cell? ⟨G, 9, none⟩ = some (.slice xa xn xc) ∧ y1.cell? ⟨tb, 0, none⟩ = some (.slice p N c)) ∧ (Below w3.heap.size w3 (y1.alloc (.cells #[.int .i64 x0, .int .i64 x1, .string x2, .string x3, .string x4, .string x5, .string x6, .int .i64 x7, .int .i64 x8, .slice xa xn xc] 40)) ∧ (y1.alloc (.cells #[.int .i64 x0, .int .i64 x1, .string x2, .string x3, .string x4, .string x5, .string x6, .int .i64 x7, .int .i64 x8, .slice xa xn xc] 40)).cell? ⟨G, 0, none⟩ = some (.int .i64 x0) ∧ (y1.alloc (.cells #[.int .i64 x0, .int .i64 x1, .string x2, .string x3, .string x4, .string x5, .string x6, .int .i64 x7, .int .i64 x8, .slice xa xn xc] 40)).cell? ⟨G, 1, none⟩ = some (.int .i64 x1) ∧ (y1.alloc (.cells #[.int .i64 x0, .int .i64 x1, .string x2, .string x3, .string x4, .string x5, .string x6, .int .i64 x7, .int .i64 x8, .slice xa xn xc] 40)).cell? ⟨G, 2, none⟩ = some (.string x2) ∧ (y1.alloc (.cells #[.int .i64 x0, .int .i64 x1, .string x2, .string x3, .string x4, .string x5, .string x6, .int .i64 x7, .int .i64 x8, .slice xa xn xc] 40)).cell? ⟨G, 3, none⟩ = some (.string x3) ∧ (y1.alloc (.cells #[.int .i64 x0, .int .i64 x1, .string x2, .string x3, .string x4, .string x5, .string x6, .int .i64 x7, .int .i64 x8, .slice xa xn xc] 40)).cell? ⟨G, 4, none⟩ = some (.string x4) ∧ (y1.alloc (.cells #[.int .i64 x0, .int .i64 x1, .string x2, .string x3, .string x4, .string x5, .string x6, .int .i64 x7, .int .i64 x8, .slice xa xn xc] 40)).cell? ⟨G, 5, none⟩ = some (.string x5) ∧ (y1.alloc (.cells #[.int .i64 x0, .int .i64 x1, .string x2, .string x3, .string x4, .string x5, .string x6, .int .i64 x7, .int .i64 x8, .slice xa xn xc] 40)).cell? ⟨G, 6, none⟩ = some (.string x6) ∧ (y1.alloc (.cells #[.int .i64 x0, .int .i64 x1, .string x2, .string x3, .string x4, .string x5, .string x6, .int .i64 x7, .int .i64 x8, .slice xa xn xc] 40)).cell? ⟨G, 7, none⟩ = some (.int .i64 x7) ∧ (y1.alloc (.cells #[.int .i64 x0, .int .i64 x1, .string x2, .string x3, .string x4, .string x5, .string x6, .int .i64 x7, .int .i64 x8, .slice xa xn xc] 40)).cell? ⟨G, 8, none⟩ = some (.int .i64 x8) ∧ (y1.alloc (.cells #[.int .i64 x0, .int .i64 x1, .string x2, .string x3, .string x4, .string x5, .string x6, .int .i64 x7, .int .i64 x8, .slice xa xn xc] 40)).cell? ⟨G, 9, none⟩ = some (.slice xa xn xc) ∧ (y1.alloc (.cells #[.int .i64 x0, .int .i64 x1, .string x2, .string x3, .string x4, .string x5, .string x6, .int .i64 x7, .int .i64 x8, .slice xa xn xc] 40)).cell? ⟨tb, 0, none⟩ = some (.slice p N c)) ∧ (Below w3.heap.size w3 w5 ∧ w5.cell? ⟨G, 0, none⟩ = some (.int .i64 x0) ∧ w5.cell? ⟨G, 1, none⟩ = some (.int .i64 x1) ∧ w5.cell? ⟨G, 2, none⟩ = some (.string x2) ∧ w5.cell? ⟨G, 3, none⟩ = some (.string x3) ∧ w5.cell? ⟨G, 4, none⟩ = some (.string x4) ∧ w5.cell? ⟨G, 5, none⟩ = some (.string x5) ∧ w5.cell? ⟨G, 6, none⟩ = some (.string x6) ∧ w5.cell? ⟨G, 7, none⟩ = some (.int .i64 x7) ∧ w5.cell? ⟨G, 8, none⟩ = some (.int .i64 x8) ∧ w5.cell? ⟨G, 9, none⟩ = some (.slice xa xn xc) ∧ w5.cell? ⟨tb, 0, none⟩ = some (.slice p N c))) := fun y1 V l' hs hV hy1 => by
        have hby : Below w3.heap.size w3 y1 := hb1.trans hy1
        have hrow : Blk (y1.alloc (.cells #[.int .i64 x0, .int .i64 x1, .string x2, .string x3, .string x4, .string x5, .string x6, .int .i64 x7, .int .i64 x8, .slice xa xn xc] 40)) y1.heap.size 40 (devC ⟨x0, x1, x2, x3, x4, x5, x6, x7, x8, xa, xn, xc, xt⟩).toArray := Blk.new_ _ _ _ rfl
        have hbz : Below w3.heap.size w3 (y1.alloc (.cells #[.int .i64 x0, .int .i64 x1, .string x2, .string x3, .string x4, .string x5, .string x6, .int .i64 x7, .int .i64 x8, .slice xa xn xc] 40)) := hby.alloc hby.size _
        obtain ⟨p2, c2, w5, h1, h2, h3⟩ := join_any (y1.alloc (.cells #[.int .i64 x0, .int .i64 x1, .string x2, .string x3, .string x4, .string x5, .string x6, .int .i64 x7, .int .i64 x8, .slice xa xn xc] 40)) y1.heap.size ⟨x0, x1, x2, x3, x4, x5, x6, x7, x8, xa, xn, xc, xt⟩ V l' hrow (hok3.out.below hbz) (hV.below ((Below.refl _ _).alloc (Nat.le_refl _) _)) (hlD.out l' hs)
        have hb5 : Below w3.heap.size w3 w5 := hbz.trans (h3.mono hbz.size)
        exact ⟨p2, c2, w5, h1, ⟨h2, hB3.out.trans (hb5.mono hB3.out.size)⟩, hkS.out _ hby, hkS.out _ hbz, hkS.out _ hb5⟩
      have hAA : Hid (Calls Tryz.prog 12 #[.agg #[.slice p N c], .int .i64 i] (w3.drew.alloc (.cells #[.int .i64 x0, .int .i64 x1, .string x2, .string x3, .string x4, .string x5, .string x6, .int .i64 x7, .int .i64 x8, .slice xa xn xc] 40)) fun e w' => (∃ V l', e = .returned V ∧ DevsAt w' V l' ∧ Sames (ancS l i) l' ∧ ∀ d ∈ l', Neat d.att d.aa d.an d.ac) ∧ Below (w3.drew.alloc (.cells #[.int .i64 x0, .int .i64 x1, .string x2, .string x3, .string x4, .string x5, .string x6, .int .i64 x7, .int .i64 x8, .slice xa xn xc] 40)).heap.size (w3.drew.alloc (.cells #[.int .i64 x0, .int .i64 x1, .string x2, .string x3, .string x4, .string x5, .string x6, .int .i64 x7, .int .i64 x8, .slice xa xn xc] 40)) w') := hA.out _ (hB3.out.trans (hbA.mono hB3.out.size))
      have hAB : Hid (Calls Tryz.prog 12 #[.agg #[.slice p N c], .int .i64 i] w3.drew fun e w' => (∃ V l', e = .returned V ∧ DevsAt w' V l' ∧ Sames (ancS l i) l' ∧ ∀ d ∈ l', Neat d.att d.aa d.an d.ac) ∧ Below w3.drew.heap.size w3.drew w') := hA.out _ (Below.drew hB3.out)
      clear hb1 hbA hkS hA hB3 hD3 hT3 hok3
      (first | (go_must (go_region_held3 (fun Y => Below w3.heap.size w3 Y ∧ Y.cell? ⟨G, 0, none⟩ = some (.int .i64 x0) ∧ Y.cell? ⟨G, 1, none⟩ = some (.int .i64 x1) ∧ Y.cell? ⟨G, 2, none⟩ = some (.string x2) ∧ Y.cell? ⟨G, 3, none⟩ = some (.string x3) ∧ Y.cell? ⟨G, 4, none⟩ = some (.string x4) ∧ Y.cell? ⟨G, 5, none⟩ = some (.string x5) ∧ Y.cell? ⟨G, 6, none⟩ = some (.string x6) ∧ Y.cell? ⟨G, 7, none⟩ = some (.int .i64 x7) ∧ Y.cell? ⟨G, 8, none⟩ = some (.int .i64 x8) ∧ Y.cell? ⟨G, 9, none⟩ = some (.slice xa xn xc) ∧ Y.cell? ⟨tb, 0, none⟩ = some (.slice p N c))
        ((first | exact hS0 | exact hS1 | exact hSA | exact hq1 | exact hq2 | exact hq3))
        (first
          | (go_at_call 12; refine hAA.out.mono ?_; rintro e y1 ⟨⟨V, l', rfl, hV, hs, _⟩, hy1⟩; obtain ⟨p2, c2, w5, hrun, hdev, hq1, hq3⟩ := hJA.out y1 V l' hs hV hy1)
          | (go_at_call 12; refine hAB.out.mono ?_; rintro e y1 ⟨⟨V, l', rfl, hV, hs, _⟩, hy1⟩; obtain ⟨p2, c2, w5, hrun, hdev, hq1, hq2, hq3⟩ := hJB.out y1 V l' hs hV hy1)
          | (refine step_join (by rfl) (.tmp 46) (.tmp 49) (by rfl) (by rfl) _ _ _ _ (by simp [Act.eval]) (by simp [Act.eval]) hrun ?_)
          | fail))) | fail)
      all_goals
        have hs' := Lib.hid hs
        clear hS0 hS1 hSA hJA hJB hAA hAB hV hs hrun hy1 hq1 hq3
        go_wp2_with fail
        go_meet
        case rel => exact ⟨p2, l'.length + 1, c2, _, rfl, by have := hlD.out l' hs'.out; omega, (rfl : (⟨x0, x1, x2, x3, x4, x5, x6, x7, x8, xa, xn, xc, xt⟩ :: l').length = _), hdev.out.1, hdev.out.2, hR2.out l' hs'.out, hfD.out l' hs'.out⟩
    case rest =>
      obtain ⟨q, n, qc, E, rfl, hn, hE, hDE, hBE, hRE, hFE⟩ := hcut
      clear hR2 hfD hlD hA hB3 hD3 hT3 hok3
      generalize wc = v1 at *
      have hrow : Hid (RowAt v1 (.slice q n qc) 10 (E.map devC)) := hDE.out.1
      have hda : Hid (∀ x ∈ E, DevAt v1 x) := hDE.out.2
      have hts1 : Hid (TrmsAt v1 (.slice ua un uc) ts) := RowAt.below hus'.out hBE.out
      have hV1 := Lib.hid (hW0.out.trans (hBE.out.mono hW0.out.size))
      clear hDE hus' hBE hW0
      obtain ⟨ra, rb⟩ := R
      go_wp2_with fail
      go_loopw [12] (fun s12 wr => ∃ k : Nat, s12 = .int .i64 k ∧ k ≤ n ∧ Hid (∀ j x, j < k → E[j]? = some x → ts.any (offS x) = true) ∧ Hid (Below v1.heap.size v1 wr)) (fun s12 _ => n - (intOf s12).toNat)
      case atStart => exact ⟨0, rfl, by omega, (show ∀ j x, j < 0 → E[j]? = some x → ts.any (offS x) = true from fun j x hj => by omega), (show Below v1.heap.size v1 v1 from Below.refl _ _)⟩
      case round =>
        obtain ⟨k, rfl, hk, hno, hb⟩ := hrel
        have ik0 : (0 : Int) ≤ (k : Int) := by omega
        by_cases hkn : k < n
        · have ik : (k : Int) < (n : Int) := by omega
          obtain ⟨x, g, o, hx, rfl, hc⟩ := rowDev_cell hrow.out hb.out hkn
          have hcY : Hid (∀ Y, Below wr.heap.size wr Y → ∀ (j : Nat) (u : Value), (devC x)[j]? = some u → Y.cell? ⟨g, o + k * 10 + j, none⟩ = some u) := fun Y h j u hu => (World.cell?_of_block (h.block g (World.block_lt_of_cell? wr ⟨g, o + k * 10 + 0, none⟩ (hc 0 _ rfl)))).trans (hc j u hu)
          have hxl : Hid (x ∈ E) := List.mem_of_getElem? hx
          have hx' := Lib.hid hx
          clear hx hc
          go_upto_block 2 with fail
          go_cut [13] (fun s13 wx => s13 = .bool (!(ts.any (offS x))) ∧ Hid (Below wr.heap.size wr wx))
          case first =>
            go_wp2_with fail
            go_loopw [13, 14] (fun s13 s14 wx => ∃ j : Nat, s13 = .bool (goodTo ts x j) ∧ s14 = .int .i64 j ∧ j ≤ un ∧ Hid (Below wr.heap.size wr wx)) (fun _ s14 _ => un - (intOf s14).toNat)
            case atStart => exact ⟨0, by simp [goodTo], rfl, by omega, (show Below wr.heap.size wr wr from Below.refl _ _)⟩
            case round =>
              obtain ⟨j, rfl, rfl, hj, hbx⟩ := hrel
              have ij0 : (0 : Int) ≤ (j : Int) := by omega
              by_cases hjn : j < un
              · have ij : (j : Int) < (un : Int) := by omega
                obtain ⟨t, g2, o2, ht, rfl, hg2, htc⟩ := Trm.at hts1.out hjn
                have hsucc := goodTo_succ (x := x) ht
                have htmem : t ∈ ts := List.mem_of_getElem? ht
                have hvs := husz'.out t htmem
                have hsucc' := Lib.hid hsucc
                have htc' := Lib.hid htc
                obtain ⟨tk, tn2, oo, tvv⟩ := t
                dsimp only at hsucc' htc' hvs
                clear hsucc htc ht htmem
                have hbW := Lib.hid (hb.out.trans (hbx.out.mono hb.out.size))
                obtain ⟨G0, hG0⟩ : ∃ G0, goodTo ts x j = G0 := ⟨_, rfl⟩
                rw [hG0] at hsucc' ⊢
                have hG0' := Lib.hid hG0; clear hG0
                cases G0 with
                | false =>
                  go_wp2_with fail
                  go_quiet (fail)
                  go_wp2_with fail
                  go_roundw
                  case rel => exact ⟨j + 1, by rw [hsucc'.out]; rfl, by go_num, by omega, below_drawN hbx.out _⟩
                  case measure => simp [intOf]; omega
                | true =>
                  have hU := Lib.hid (fun W => upward_any tk tn2 oo tvv W)
                  have hDv := Lib.hid (fun W (h : Below v1.heap.size v1 W) => device_any tk tn2 oo tvv x W ((hda.out x hxl.out).below h) (hFE.out x hxl.out) hvs)
                  unfold termV at hU hDv
                  unfold devV at hDv
                  have hcW := Lib.hid (fun Y (h : Below wr.heap.size wr Y) => hcY.out Y (hbx.out.trans (h.mono hbx.out.size)))
                  have hcW0 : Hid (∀ Y, Below wr.heap.size wr Y → Y.cell? ⟨g, o + k * 10, none⟩ = some (.int .i64 x.idx)) := fun Y h => hcW.out Y h 0 _ rfl
                  have htW := Lib.hid (fun Y (h : Below wr.heap.size wr Y) => htc'.out Y (hbW.out.trans (h.mono hbW.out.size)))
                  have hbWY := Lib.hid (fun Y (h : Below wr.heap.size wr Y) => hbW.out.trans (h.mono hbW.out.size))
                  have hd0 : Below wr.heap.size wr wr.drew := (Below.refl _ _).drew
                  generalize upS' tk oo = U at *
                  generalize devS tk tn2 oo tvv x = D at *
                  cases U with
                  | false =>
                    go_upto_region 17 with fail
                    have hSf : Hid (∀ Y, Below wr.heap.size wr Y → (Below wr.heap.size wr Y ∧ Y.cell? ⟨g2, o2 + j * 4, none⟩ = some (.int .i64 tk) ∧ Y.cell? ⟨g2, o2 + j * 4 + 1, none⟩ = some (.string tn2) ∧ Y.cell? ⟨g2, o2 + j * 4 + 2, none⟩ = some (.int .i64 oo) ∧ Y.cell? ⟨g2, o2 + j * 4 + 3, none⟩ = some (.string tvv) ∧ Y.cell? ⟨g, o + k * 10, none⟩ = some (.int .i64 x.idx) ∧ Y.cell? ⟨g, o + k * 10 + 1, none⟩ = some (.int .i64 x.par) ∧ Y.cell? ⟨g, o + k * 10 + 2, none⟩ = some (.string x.name) ∧ Y.cell? ⟨g, o + k * 10 + 3, none⟩ = some (.string x.orig) ∧ Y.cell? ⟨g, o + k * 10 + 4, none⟩ = some (.string x.sub) ∧ Y.cell? ⟨g, o + k * 10 + 5, none⟩ = some (.string x.drv) ∧ Y.cell? ⟨g, o + k * 10 + 6, none⟩ = some (.string x.ali) ∧ Y.cell? ⟨g, o + k * 10 + 7, none⟩ = some (.int .i64 x.kind) ∧ Y.cell? ⟨g, o + k * 10 + 8, none⟩ = some (.int .i64 x.num) ∧ Y.cell? ⟨g, o + k * 10 + 9, none⟩ = some (.slice x.aa x.an x.ac))) := fun Y h => by
                      have q := htW.out Y h
                      exact ⟨h, q.1, q.2.1, q.2.2.1, q.2.2.2, hcW0.out Y h, hcW.out Y h 1 _ rfl, hcW.out Y h 2 _ rfl, hcW.out Y h 3 _ rfl, hcW.out Y h 4 _ rfl, hcW.out Y h 5 _ rfl, hcW.out Y h 6 _ rfl, hcW.out Y h 7 _ rfl, hcW.out Y h 8 _ rfl, hcW.out Y h 9 _ rfl⟩
                    have hS1 := hSf.out wr.drew hd0
                    obtain ⟨q0, q1, q2, q3, q4, q5, q6, q7, q8, q9, q10, q11, q12, q13, q14⟩ := hS1
                    clear q0
                    refine wp_region_any (by kernel_rfl) ?_
                    change wpAny _ _ _ _ _ _ _ (World.drew _)
                    refine wpAny_take (i := 0) (v := ?_) rfl (by kernel_rfl) (by kernel_rfl) (by kernel_rfl) (fun _ _ _ h => h) (Or.inl ⟨by rfl, ?_⟩) ?_
                    rotate_left
                    · (intro w; go_simp) <;> with_reducible rfl
                    refine wpAny_take (i := 1) (v := ?_) rfl (by kernel_rfl) (by kernel_rfl) (by kernel_rfl) (fun _ _ _ h => h) (Or.inl ⟨by rfl, ?_⟩) ?_
                    rotate_left
                    · (intro w; go_simp) <;> with_reducible rfl
                    refine wpAny_take (i := 2) (v := ?_) rfl (by kernel_rfl) (by kernel_rfl) (by kernel_rfl) (fun _ _ _ h => h) (Or.inl ⟨by rfl, ?_⟩) ?_
                    rotate_left
                    · (intro w; go_simp) <;> with_reducible rfl
                    refine wpAny_take (i := 3) (v := ?_) rfl (by kernel_rfl) (by kernel_rfl) (by kernel_rfl) (fun _ _ _ h => h) (Or.inl ⟨by rfl, ?_⟩) ?_
                    rotate_left
                    · (intro w; go_simp) <;> with_reducible rfl
                    refine wpAny_take (i := 4) (v := ?_) rfl (by kernel_rfl) (by kernel_rfl) (by kernel_rfl) (fun _ _ _ h => h) (Or.inl ⟨by rfl, ?_⟩) ?_
                    rotate_left
                    · (intro w; go_simp) <;> with_reducible rfl
                    refine wpAny_ready (rs := [5]) (by kernel_rfl) (by simp) ?_
                    refine AllReady.cons rfl (fun K hK => ?_) AllReady.nil
                    go_simp
                    refine hK _ _ ?_
                    clear hK K
                    refine wpAny_ready (rs := [6]) (by kernel_rfl) (by simp) ?_
                    refine AllReady.cons rfl (fun K hK => ?_) AllReady.nil
                    go_simp
                    go_at_call 13
                    refine (hU.out _).mono ?_
                    rintro e y1 ⟨rfl, hy1⟩
                    have hbY := hd0.trans (hy1.mono hd0.size)
                    obtain ⟨r0, r1, r2, r3, r4, r5, r6, r7, r8, r9, r10, r11, r12, r13, r14⟩ := hSf.out _ hbY
                    try go_simp
                    refine hK _ _ ?_
                    clear hK K
                    refine wpAny_take (i := 7) (v := ?_) rfl (by kernel_rfl) (by kernel_rfl) (by kernel_rfl) (fun _ _ _ h => h) (Or.inl ⟨by rfl, ?_⟩) ?_
                    rotate_left
                    · (intro w; go_simp) <;> with_reducible rfl
                    refine wpAny_take (i := 8) (v := ?_) rfl (by kernel_rfl) (by kernel_rfl) (by kernel_rfl) (fun _ _ _ h => h) (Or.inl ⟨by rfl, ?_⟩) ?_
                    rotate_left
                    · (intro w; go_simp) <;> with_reducible rfl
                    refine wpAny_take (i := 9) (v := undef) rfl (by kernel_rfl) (by kernel_rfl) (by kernel_rfl) (fun _ _ _ h => h) (Or.inr ⟨by rfl, rfl⟩) ?_
                    refine wpAny_take (i := 10) (v := undef) rfl (by kernel_rfl) (by kernel_rfl) (by kernel_rfl) (fun _ _ _ h => h) (Or.inr ⟨by rfl, rfl⟩) ?_
                    refine wpAny_take (i := 11) (v := undef) rfl (by kernel_rfl) (by kernel_rfl) (by kernel_rfl) (fun _ _ _ h => h) (Or.inr ⟨by rfl, rfl⟩) ?_
                    refine wpAny_take (i := 13) (v := undef) rfl (by kernel_rfl) (by kernel_rfl) (by kernel_rfl) (fun _ _ _ h => h) (Or.inr ⟨by rfl, rfl⟩) ?_
                    refine wpAny_take (i := 14) (v := undef) rfl (by kernel_rfl) (by kernel_rfl) (by kernel_rfl) (fun _ _ _ h => h) (Or.inr ⟨by rfl, rfl⟩) ?_
                    refine wpAny_take (i := 15) (v := undef) rfl (by kernel_rfl) (by kernel_rfl) (by kernel_rfl) (fun _ _ _ h => h) (Or.inr ⟨by rfl, rfl⟩) ?_
                    refine wpAny_ready (rs := [12, 16]) (by kernel_rfl) (by simp) ?_
                    refine AllReady.cons rfl (fun K hK => ?_) (AllReady.cons rfl (fun K hK => ?_) AllReady.nil)
                    · go_simp
                      refine hK _ _ ?_
                      clear hK K
                      refine wpAny_ready (rs := [16]) (by kernel_rfl) (by simp) ?_
                      refine AllReady.cons rfl (fun K hK => ?_) AllReady.nil
                      go_simp
                      refine hK _ _ ?_
                      clear hK K
                      refine wpAny_ready (rs := [17]) (by kernel_rfl) (by simp) ?_
                      refine AllReady.cons rfl (fun K hK => ?_) AllReady.nil
                      go_simp
                      refine hK _ _ ?_
                      clear hK K
                      refine wpAny_take (i := 18) (v := ?_) rfl (by kernel_rfl) (by kernel_rfl) (by kernel_rfl) (fun _ _ _ h => h) (Or.inl ⟨by rfl, ?_⟩) ?_
                      rotate_left
                      · (intro w; go_simp) <;> with_reducible rfl
                      refine wpAny_take (i := 19) (v := ?_) rfl (by kernel_rfl) (by kernel_rfl) (by kernel_rfl) (fun _ _ _ h => h) (Or.inl ⟨by rfl, ?_⟩) ?_
                      rotate_left
                      · (intro w; go_simp) <;> with_reducible rfl
                      refine wpAny_take (i := 20) (v := ?_) rfl (by kernel_rfl) (by kernel_rfl) (by kernel_rfl) (fun _ _ _ h => h) (Or.inl ⟨by rfl, ?_⟩) ?_
                      rotate_left
                      · (intro w; go_simp) <;> with_reducible rfl
                      refine wpAny_done (by kernel_rfl) ?_ _
                      have hbY' := Lib.hid (hbx.out.trans (hbY.mono hbx.out.size))
                      clear hbY hy1
                      go_wp2_with fail
                      go_roundw
                      case rel => exact ⟨j + 1, by rw [hsucc'.out]; rfl, by go_num, by omega, hbY'⟩
                      case measure => simp [intOf]; omega
                    · go_simp
                      refine hK _ _ ?_
                      clear hK K
                      refine wpAny_ready (rs := [12]) (by kernel_rfl) (by simp) ?_
                      refine AllReady.cons rfl (fun K hK => ?_) AllReady.nil
                      go_simp
                      refine hK _ _ ?_
                      clear hK K
                      refine wpAny_ready (rs := [17]) (by kernel_rfl) (by simp) ?_
                      refine AllReady.cons rfl (fun K hK => ?_) AllReady.nil
                      go_simp
                      refine hK _ _ ?_
                      clear hK K
                      refine wpAny_take (i := 18) (v := ?_) rfl (by kernel_rfl) (by kernel_rfl) (by kernel_rfl) (fun _ _ _ h => h) (Or.inl ⟨by rfl, ?_⟩) ?_
                      rotate_left
                      · (intro w; go_simp) <;> with_reducible rfl
                      refine wpAny_take (i := 19) (v := ?_) rfl (by kernel_rfl) (by kernel_rfl) (by kernel_rfl) (fun _ _ _ h => h) (Or.inl ⟨by rfl, ?_⟩) ?_
                      rotate_left
                      · (intro w; go_simp) <;> with_reducible rfl
                      refine wpAny_take (i := 20) (v := ?_) rfl (by kernel_rfl) (by kernel_rfl) (by kernel_rfl) (fun _ _ _ h => h) (Or.inl ⟨by rfl, ?_⟩) ?_
                      rotate_left
                      · (intro w; go_simp) <;> with_reducible rfl
                      refine wpAny_done (by kernel_rfl) ?_ _
                      have hbY' := Lib.hid (hbx.out.trans (hbY.mono hbx.out.size))
                      clear hbY hy1
                      go_wp2_with fail
                      go_roundw
                      case rel => exact ⟨j + 1, by rw [hsucc'.out]; rfl, by go_num, by omega, hbY'⟩
                      case measure => simp [intOf]; omega
                  | true =>
                    go_upto_region 17 with fail
                    have hSf : Hid (∀ Y, Below wr.heap.size wr Y → (Below wr.heap.size wr Y ∧ Y.cell? ⟨g2, o2 + j * 4, none⟩ = some (.int .i64 tk) ∧ Y.cell? ⟨g2, o2 + j * 4 + 1, none⟩ = some (.string tn2) ∧ Y.cell? ⟨g2, o2 + j * 4 + 2, none⟩ = some (.int .i64 oo) ∧ Y.cell? ⟨g2, o2 + j * 4 + 3, none⟩ = some (.string tvv) ∧ Y.cell? ⟨g, o + k * 10, none⟩ = some (.int .i64 x.idx) ∧ Y.cell? ⟨g, o + k * 10 + 1, none⟩ = some (.int .i64 x.par) ∧ Y.cell? ⟨g, o + k * 10 + 2, none⟩ = some (.string x.name) ∧ Y.cell? ⟨g, o + k * 10 + 3, none⟩ = some (.string x.orig) ∧ Y.cell? ⟨g, o + k * 10 + 4, none⟩ = some (.string x.sub) ∧ Y.cell? ⟨g, o + k * 10 + 5, none⟩ = some (.string x.drv) ∧ Y.cell? ⟨g, o + k * 10 + 6, none⟩ = some (.string x.ali) ∧ Y.cell? ⟨g, o + k * 10 + 7, none⟩ = some (.int .i64 x.kind) ∧ Y.cell? ⟨g, o + k * 10 + 8, none⟩ = some (.int .i64 x.num) ∧ Y.cell? ⟨g, o + k * 10 + 9, none⟩ = some (.slice x.aa x.an x.ac))) := fun Y h => by
                      have q := htW.out Y h
                      exact ⟨h, q.1, q.2.1, q.2.2.1, q.2.2.2, hcW0.out Y h, hcW.out Y h 1 _ rfl, hcW.out Y h 2 _ rfl, hcW.out Y h 3 _ rfl, hcW.out Y h 4 _ rfl, hcW.out Y h 5 _ rfl, hcW.out Y h 6 _ rfl, hcW.out Y h 7 _ rfl, hcW.out Y h 8 _ rfl, hcW.out Y h 9 _ rfl⟩
                    have hS1 := hSf.out wr.drew hd0
                    obtain ⟨q0, q1, q2, q3, q4, q5, q6, q7, q8, q9, q10, q11, q12, q13, q14⟩ := hS1
                    clear q0
                    refine wp_region_any (by kernel_rfl) ?_
                    change wpAny _ _ _ _ _ _ _ (World.drew _)
                    refine wpAny_take (i := 0) (v := ?_) rfl (by kernel_rfl) (by kernel_rfl) (by kernel_rfl) (fun _ _ _ h => h) (Or.inl ⟨by rfl, ?_⟩) ?_
                    rotate_left
                    · (intro w; go_simp) <;> with_reducible rfl
                    refine wpAny_take (i := 1) (v := ?_) rfl (by kernel_rfl) (by kernel_rfl) (by kernel_rfl) (fun _ _ _ h => h) (Or.inl ⟨by rfl, ?_⟩) ?_
                    rotate_left
                    · (intro w; go_simp) <;> with_reducible rfl
                    refine wpAny_take (i := 2) (v := ?_) rfl (by kernel_rfl) (by kernel_rfl) (by kernel_rfl) (fun _ _ _ h => h) (Or.inl ⟨by rfl, ?_⟩) ?_
                    rotate_left
                    · (intro w; go_simp) <;> with_reducible rfl
                    refine wpAny_take (i := 3) (v := ?_) rfl (by kernel_rfl) (by kernel_rfl) (by kernel_rfl) (fun _ _ _ h => h) (Or.inl ⟨by rfl, ?_⟩) ?_
                    rotate_left
                    · (intro w; go_simp) <;> with_reducible rfl
                    refine wpAny_take (i := 4) (v := ?_) rfl (by kernel_rfl) (by kernel_rfl) (by kernel_rfl) (fun _ _ _ h => h) (Or.inl ⟨by rfl, ?_⟩) ?_
                    rotate_left
                    · (intro w; go_simp) <;> with_reducible rfl
                    refine wpAny_ready (rs := [5]) (by kernel_rfl) (by simp) ?_
                    refine AllReady.cons rfl (fun K hK => ?_) AllReady.nil
                    go_simp
                    refine hK _ _ ?_
                    clear hK K
                    refine wpAny_ready (rs := [6]) (by kernel_rfl) (by simp) ?_
                    refine AllReady.cons rfl (fun K hK => ?_) AllReady.nil
                    go_simp
                    go_at_call 13
                    refine (hU.out _).mono ?_
                    rintro e y1 ⟨rfl, hy1⟩
                    have hbY := hd0.trans (hy1.mono hd0.size)
                    obtain ⟨r0, r1, r2, r3, r4, r5, r6, r7, r8, r9, r10, r11, r12, r13, r14⟩ := hSf.out _ hbY
                    try go_simp
                    refine hK _ _ ?_
                    clear hK K
                    refine wpAny_take (i := 7) (v := ?_) rfl (by kernel_rfl) (by kernel_rfl) (by kernel_rfl) (fun _ _ _ h => h) (Or.inl ⟨by rfl, ?_⟩) ?_
                    rotate_left
                    · (intro w; go_simp) <;> with_reducible rfl
                    refine wpAny_take (i := 8) (v := ?_) rfl (by kernel_rfl) (by kernel_rfl) (by kernel_rfl) (fun _ _ _ h => h) (Or.inl ⟨by rfl, ?_⟩) ?_
                    rotate_left
                    · (intro w; go_simp) <;> with_reducible rfl
                    refine wpAny_take (i := 9) (v := ?_) rfl (by kernel_rfl) (by kernel_rfl) (by kernel_rfl) (fun _ _ _ h => h) (Or.inl ⟨by rfl, ?_⟩) ?_
                    rotate_left
                    · (intro w; go_simp) <;> with_reducible rfl
                    refine wpAny_take (i := 10) (v := ?_) rfl (by kernel_rfl) (by kernel_rfl) (by kernel_rfl) (fun _ _ _ h => h) (Or.inl ⟨by rfl, ?_⟩) ?_
                    rotate_left
                    · (intro w; go_simp) <;> with_reducible rfl
                    refine wpAny_take (i := 11) (v := ?_) rfl (by kernel_rfl) (by kernel_rfl) (by kernel_rfl) (fun _ _ _ h => h) (Or.inl ⟨by rfl, ?_⟩) ?_
                    rotate_left
                    · (intro w; go_simp) <;> with_reducible rfl
                    refine wpAny_take (i := 13) (v := ?_) rfl (by kernel_rfl) (by kernel_rfl) (by kernel_rfl) (fun _ _ _ h => h) (Or.inl ⟨by rfl, ?_⟩) ?_
                    rotate_left
                    · (intro w; go_simp) <;> with_reducible rfl
                    refine wpAny_take (i := 14) (v := ?_) rfl (by kernel_rfl) (by kernel_rfl) (by kernel_rfl) (fun _ _ _ h => h) (Or.inl ⟨by rfl, ?_⟩) ?_
                    rotate_left
                    · (intro w; go_simp) <;> with_reducible rfl
                    refine wpAny_take (i := 15) (v := ?_) rfl (by kernel_rfl) (by kernel_rfl) (by kernel_rfl) (fun _ _ _ h => h) (Or.inl ⟨by rfl, ?_⟩) ?_
                    rotate_left
                    · (intro w; go_simp) <;> with_reducible rfl
                    refine wpAny_ready (rs := [12, 16]) (by kernel_rfl) (by simp) ?_
                    refine AllReady.cons rfl (fun K hK => ?_) (AllReady.cons rfl (fun K hK => ?_) AllReady.nil)
                    · go_simp
                      refine hK _ _ ?_
                      clear hK K
                      refine wpAny_ready (rs := [16]) (by kernel_rfl) (by simp) ?_
                      refine AllReady.cons rfl (fun K hK => ?_) AllReady.nil
                      go_simp
                      refine hK _ _ ?_
                      clear hK K
                      refine wpAny_ready (rs := [17]) (by kernel_rfl) (by simp) ?_
                      refine AllReady.cons rfl (fun K hK => ?_) AllReady.nil
                      go_simp
                      go_at_call 14
                      refine (hDv.out _ (hbWY.out _ hbY)).mono ?_
                      rintro e y2 ⟨rfl, hy2⟩
                      have hbZ := hbY.trans (hy2.mono hbY.size)
                      try go_simp
                      refine hK _ _ ?_
                      clear hK K
                      refine wpAny_take (i := 18) (v := ?_) rfl (by kernel_rfl) (by kernel_rfl) (by kernel_rfl) (fun _ _ _ h => h) (Or.inl ⟨by rfl, ?_⟩) ?_
                      rotate_left
                      · (intro w; go_simp) <;> with_reducible rfl
                      refine wpAny_take (i := 19) (v := ?_) rfl (by kernel_rfl) (by kernel_rfl) (by kernel_rfl) (fun _ _ _ h => h) (Or.inl ⟨by rfl, ?_⟩) ?_
                      rotate_left
                      · (intro w; go_simp) <;> with_reducible rfl
                      refine wpAny_take (i := 20) (v := ?_) rfl (by kernel_rfl) (by kernel_rfl) (by kernel_rfl) (fun _ _ _ h => h) (Or.inl ⟨by rfl, ?_⟩) ?_
                      rotate_left
                      · (intro w; go_simp) <;> with_reducible rfl
                      refine wpAny_done (by kernel_rfl) ?_ _
                      have hbZ' := Lib.hid (hbx.out.trans (hbZ.mono hbx.out.size))
                      clear hbZ hbY hy1 hy2
                      go_wp2_with fail
                      go_roundw
                      case rel => exact ⟨j + 1, by rw [hsucc'.out]; cases D <;> rfl, by go_num, by omega, hbZ'⟩
                      case measure => simp [intOf]; omega
                    · go_simp
                      refine hK _ _ ?_
                      clear hK K
                      refine wpAny_ready (rs := [12]) (by kernel_rfl) (by simp) ?_
                      refine AllReady.cons rfl (fun K hK => ?_) AllReady.nil
                      go_simp
                      refine hK _ _ ?_
                      clear hK K
                      refine wpAny_ready (rs := [17]) (by kernel_rfl) (by simp) ?_
                      refine AllReady.cons rfl (fun K hK => ?_) AllReady.nil
                      go_simp
                      go_at_call 14
                      refine (hDv.out _ (hbWY.out _ hbY)).mono ?_
                      rintro e y2 ⟨rfl, hy2⟩
                      have hbZ := hbY.trans (hy2.mono hbY.size)
                      try go_simp
                      refine hK _ _ ?_
                      clear hK K
                      refine wpAny_take (i := 18) (v := ?_) rfl (by kernel_rfl) (by kernel_rfl) (by kernel_rfl) (fun _ _ _ h => h) (Or.inl ⟨by rfl, ?_⟩) ?_
                      rotate_left
                      · (intro w; go_simp) <;> with_reducible rfl
                      refine wpAny_take (i := 19) (v := ?_) rfl (by kernel_rfl) (by kernel_rfl) (by kernel_rfl) (fun _ _ _ h => h) (Or.inl ⟨by rfl, ?_⟩) ?_
                      rotate_left
                      · (intro w; go_simp) <;> with_reducible rfl
                      refine wpAny_take (i := 20) (v := ?_) rfl (by kernel_rfl) (by kernel_rfl) (by kernel_rfl) (fun _ _ _ h => h) (Or.inl ⟨by rfl, ?_⟩) ?_
                      rotate_left
                      · (intro w; go_simp) <;> with_reducible rfl
                      refine wpAny_done (by kernel_rfl) ?_ _
                      have hbZ' := Lib.hid (hbx.out.trans (hbZ.mono hbx.out.size))
                      clear hbZ hbY hy1 hy2
                      go_wp2_with fail
                      go_roundw
                      case rel => exact ⟨j + 1, by rw [hsucc'.out]; cases D <;> rfl, by go_num, by omega, hbZ'⟩
                      case measure => simp [intOf]; omega
              · obtain rfl : j = un := by omega
                have hall : goodTo ts x j = !(ts.any (offS x)) := by unfold goodTo; rw [List.take_of_length_le (by have := hun'.out; omega)]
                have hall' := Lib.hid hall; clear hall
                go_wp2_with fail
                go_meet
                case rel => exact ⟨by rw [hall'.out], hbx⟩
          case rest =>
            obtain ⟨rfl, hbx⟩ := hcut
            generalize wc = v3 at *
            have hb5 := Lib.hid (hb.out.trans (hbx.out.mono hb.out.size))
            have c0 := hcY.out v3 hbx.out 0 _ rfl
            rw [Nat.add_zero] at c0
            obtain ⟨B, hB⟩ : ∃ B, ts.any (offS x) = B := ⟨_, rfl⟩
            rw [hB]
            have hB' := Lib.hid hB; clear hB
            cases B with
            | false =>
              have hans : (ra, rb) = (x.idx, true) := by rw [← hRE.out]; exact ancR_some hx'.out hno.out hB'.out
              injection hans with hra hrb
              subst hra hrb
              clear hno hRE
              go_wp2_with fail
              refine (hK.out _).mono ?_
              rintro e v9 ⟨rfl, hb9⟩
              have hB5 := hV1.out.trans (hb5.out.mono hV1.out.size)
              have hB9 := hB5.trans (hb9.mono hB5.size)
              clear hb9 hB5 c0
              go_wp2_with fail
              first | go_ret | go_ret2
              exact ⟨rfl, hB9⟩
            | true =>
              have hno2 : Hid (∀ j y, j < k + 1 → E[j]? = some y → ts.any (offS y) = true) := fun j y hj hy => by
                rcases Nat.lt_or_ge j k with h2 | h2
                · exact hno.out j y h2 hy
                · obtain rfl : j = k := by omega
                  rw [hx'.out] at hy
                  cases hy
                  exact hB'.out
              clear hno
              go_wp2_with fail
              go_roundw
              case rel => exact ⟨k + 1, by go_num, by omega, hno2, hb5⟩
              case measure => simp [intOf]; omega
        · obtain rfl : k = n := by omega
          have hans : (ra, rb) = (0, false) := by rw [← hRE.out]; exact ancR_none fun j x hj hx => hno.out j x (by have := hE.out; omega) hx
          injection hans with hra hrb
          subst hra hrb
          clear hRE hno
          go_wp2_with fail
          refine (hK.out _).mono ?_
          rintro e v9 ⟨rfl, hb9⟩
          have hB5 := hV1.out.trans (hb.out.mono hV1.out.size)
          have hB9 := hB5.trans (hb9.mono hB5.size)
          clear hb9 hB5
          go_wp2_with fail
          first | go_ret | go_ret2
          exact ⟨rfl, hB9⟩

end Go.Proofs.YtinjeijjfkkhbaaGreatDoor
