/-
  THE WALK of coldpluglaw12.MatchTurns.
-/
import Derived.Test.YtfihccfjboopiaaMakeMatches
import Derived.Test.YtfihccfjboopiaaMakeDev
import Derived.Test.YtfihccfjboopiaaMatchKnown
import Derived.Test.YtfihccfjboopiaaStructArg
namespace Go.Proofs.Ytfihccfjboopiaa
open Go.RowKit

theorem st_flip (k o : Int) (h : o = 1 ∨ o = 2) : stS k (3 - o) = stS k o ∧ upS' k (3 - o) = upS' k o := by
  rcases h with rfl | rfl <;> exact ⟨rfl, rfl⟩
theorem dev_flip {k : Int} {n : ByteArray} {o : Int} {v : ByteArray} {d : Dev} (ho : o = 1 ∨ o = 2) (h : (stS k o || upS' k o) = true) : devS k n (3 - o) v d = !devS k n o v d := by
  unfold devS
  rw [(st_flip k o ho).1, (st_flip k o ho).2, h]
  unfold holdsS
  rcases ho with rfl | rfl <;> cases G.matchS (bs v) (bs (valK k n d)) <;> rfl
theorem dev_no {k : Int} {n : ByteArray} {o : Int} {v : ByteArray} {d : Dev} (h : (stS k o || upS' k o) = false) : devS k n o v d = false := by
  unfold devS
  rw [h]
  rfl
theorem draft_flip {k : Int} {n : ByteArray} {o : Int} {v act : ByteArray} {x : Dft} (ho : o = 1 ∨ o = 2) (h : k = 1 ∨ k = 6 ∨ k = 7 ∨ k = 13) : draftS k n (3 - o) v act x = !draftS k n o v act x := by
  unfold draftS holdsS
  rcases ho with rfl | rfl <;> rcases h with rfl | rfl | rfl | rfl
  · show (true && (G.matchS (bs v) (bs act) == false)) = !(true && (G.matchS (bs v) (bs act) == true))
    cases G.matchS (bs v) (bs act) <;> rfl
  · show (true && (G.matchS (bs v) (bs (getS x.pl n).1) == false)) = !(true && (G.matchS (bs v) (bs (getS x.pl n).1) == true))
    cases G.matchS (bs v) (bs (getS x.pl n).1) <;> rfl
  · show (true && ((x.tl.any fun s => G.matchS (bs v) (bs s)) == false)) = !(true && ((x.tl.any fun s => G.matchS (bs v) (bs s)) == true))
    cases x.tl.any fun s => G.matchS (bs v) (bs s) <;> rfl
  · show (true && (G.matchS (bs v) (bs x.rs) == false)) = !(true && (G.matchS (bs v) (bs x.rs) == true))
    cases G.matchS (bs v) (bs x.rs) <;> rfl
  · show (true && (G.matchS (bs v) (bs act) == true)) = !(true && (G.matchS (bs v) (bs act) == false))
    cases G.matchS (bs v) (bs act) <;> rfl
  · show (true && (G.matchS (bs v) (bs (getS x.pl n).1) == true)) = !(true && (G.matchS (bs v) (bs (getS x.pl n).1) == false))
    cases G.matchS (bs v) (bs (getS x.pl n).1) <;> rfl
  · show (true && ((x.tl.any fun s => G.matchS (bs v) (bs s)) == true)) = !(true && ((x.tl.any fun s => G.matchS (bs v) (bs s)) == false))
    cases x.tl.any fun s => G.matchS (bs v) (bs s) <;> rfl
  · show (true && (G.matchS (bs v) (bs x.rs) == true)) = !(true && (G.matchS (bs v) (bs x.rs) == false))
    cases G.matchS (bs v) (bs x.rs) <;> rfl
theorem draft_no {k : Int} {n : ByteArray} {o : Int} {v act : ByteArray} {x : Dft} (h1 : ¬ k = 1) (h6 : ¬ k = 6) (h7 : ¬ k = 7) (h13 : ¬ k = 13) : draftS k n o v act x = false := by
  unfold draftS
  rw [if_neg h1, if_neg h6, if_neg h13, if_neg h7, Bool.and_false]

set_option maxRecDepth 100000 in
set_option maxHeartbeats 8000000 in
theorem turns_walk (a : Option Addr) (N C : Nat) (w : World) (hrow : 0 < N → ∃ x : Addr, a = some x ∧ ∀ i, i < N → ∃ z : Int, w.cell? (x.add i) = some (.int .i64 z)) :
    Calls Try.prog 6 #[.slice a N C] w fun e w' => e = .returned (.bool true) ∧ Below w.heap.size w w' := by
  have hT0 : Hid (Tape (w.alloc (.cells #[.slice a N C, .int .i64 0] 33)) w.heap.size w.heap.size 0) := tape_new a N C w hrow
  have hO0 : Hid (Below w.heap.size w (w.alloc (.cells #[.slice a N C, .int .i64 0] 33))) := (Below.refl _ _).alloc (Nat.le_refl _) _
  have hC := Lib.hid (mmatches_any w.heap.size w.heap.size 0 _ hT0.out (by omega))
  clear hrow
  go_enter Try.func6, Try.ntmps6
  go_wp2_with fail
  refine hC.out.mono ?_
  rintro e x1 ⟨k, n, o, v, q1, rfl, ho, hv, hq1, hTx, hOx⟩
  have hv' := Lib.hid hv
  have hB1 : Hid (Below w.heap.size w x1) := hO0.out.trans (hOx.below (fun k e => by have e : k = w.heap.size := e; omega) (by simp))
  have hT1 := Lib.hid hTx
  clear hTx hOx hC hT0 hO0 hv
  have hC := Lib.hid (mdraft_any w.heap.size w.heap.size q1 x1 hT1.out (by omega))
  unfold termV
  go_wp2_with fail
  refine hC.out.mono ?_
  rintro e x2 ⟨x, q2, rfl, hq2, hxe, hxa, hxf, hxo, hTx, hOx⟩
  have hB2 : Hid (Below w.heap.size w x2) := hB1.out.trans (hOx.below (fun k e => by have e : k = w.heap.size := e; omega) hB1.out.size)
  have hT2 := Lib.hid hTx
  have hxa2 := Lib.hid hxa
  have hxf' := Lib.hid hxf
  have hxo' := Lib.hid hxo
  have hxe' := Lib.hid hxe
  clear hxe
  clear hTx hOx hC hT1 hB1 hxa hxf hxo
  have hC := Lib.hid (mdevice_any w.heap.size w.heap.size q2 x2 hT2.out (by omega))
  go_wp2_with fail
  refine hC.out.mono ?_
  rintro e x3 ⟨d, q3, rfl, hq3, hda, hdf, hdo, hTx, hOx⟩
  have hB3 : Hid (Below w.heap.size w x3) := hB2.out.trans (hOx.below (fun k e => by have e : k = w.heap.size := e; omega) hB2.out.size)
  have hxa3 : Hid (DftAt x3 x) := hxa2.out.only hOx hxo'.out
  have hda3 := Lib.hid hda
  have hdf' := Lib.hid hdf
  clear hTx hOx hC hT2 hB2 hda hdf hdo hxo' hxa2
  obtain ⟨p1, n1, c1, e1⟩ : ∃ p n c, x.pv = .slice p n c := by
    rcases hxa3.out.1.2 with ⟨h, _⟩ | ⟨_, _, _, h, _⟩ <;> exact ⟨_, _, _, h⟩
  obtain ⟨p2, n2, c2, e2⟩ : ∃ p n c, x.tv = .slice p n c := by
    rcases hxa3.out.2.2 with ⟨h, _⟩ | ⟨_, _, _, h, _⟩ <;> exact ⟨_, _, _, h⟩
  have hxe := hxe'.out
  clear hxe'
  rw [e1, e2] at hxe
  clear e1 e2
  generalize x.rs = rs at hxe
  generalize x.pl = pl at hxe
  generalize x.tl = tl at hxe
  subst hxe
  obtain ⟨di, dp, dn, dor, ds, dd, da, dk, du, daa, dan, dac, dat⟩ := d
  unfold dftC mkDft devV
  dsimp only
  go_upto_region 5 with fail
  have hb4 : Below x3.heap.size x3 ((((x3.alloc (.cells #[.int .i64 k, .string n, .int .i64 o, .string v] 23)).alloc (.cells #[.slice p1 n1 c1, .slice p2 n2 c2, .slice none 0 0, .slice none 0 0, .slice none 0 0, .string ⟨#[]⟩, .int .i64 0, .string ⟨#[]⟩, .string ⟨#[]⟩, .int .i64 0, .string rs, .int .i64 0, .int .i64 0, .slice none 0 0] 28)).alloc (.cells #[.int .i64 di, .int .i64 dp, .string dn, .string dor, .string ds, .string dd, .string da, .int .i64 dk, .int .i64 du, .slice daa dan dac] 42)).alloc (.cells #[.int .i64 k, .string n, .int .i64 (3 - o), .string v] 23)) := (((((Below.refl _ _).alloc (Nat.le_refl _) _).alloc (by simp) _).alloc (by simp; omega) _).alloc (by simp; omega) _)
  have ht : Hid (Blk ((((x3.alloc (.cells #[.int .i64 k, .string n, .int .i64 o, .string v] 23)).alloc (.cells #[.slice p1 n1 c1, .slice p2 n2 c2, .slice none 0 0, .slice none 0 0, .slice none 0 0, .string ⟨#[]⟩, .int .i64 0, .string ⟨#[]⟩, .string ⟨#[]⟩, .int .i64 0, .string rs, .int .i64 0, .int .i64 0, .slice none 0 0] 28)).alloc (.cells #[.int .i64 di, .int .i64 dp, .string dn, .string dor, .string ds, .string dd, .string da, .int .i64 dk, .int .i64 du, .slice daa dan dac] 42)).alloc (.cells #[.int .i64 k, .string n, .int .i64 (3 - o), .string v] 23)) x3.heap.size 23 #[.int .i64 k, .string n, .int .i64 o, .string v]) := (((Blk.new _ _ _).alloc _).alloc _).alloc _
  have hd : Hid (Blk ((((x3.alloc (.cells #[.int .i64 k, .string n, .int .i64 o, .string v] 23)).alloc (.cells #[.slice p1 n1 c1, .slice p2 n2 c2, .slice none 0 0, .slice none 0 0, .slice none 0 0, .string ⟨#[]⟩, .int .i64 0, .string ⟨#[]⟩, .string ⟨#[]⟩, .int .i64 0, .string rs, .int .i64 0, .int .i64 0, .slice none 0 0] 28)).alloc (.cells #[.int .i64 di, .int .i64 dp, .string dn, .string dor, .string ds, .string dd, .string da, .int .i64 dk, .int .i64 du, .slice daa dan dac] 42)).alloc (.cells #[.int .i64 k, .string n, .int .i64 (3 - o), .string v] 23)) (x3.heap.size + 1) 28 #[.slice p1 n1 c1, .slice p2 n2 c2, .slice none 0 0, .slice none 0 0, .slice none 0 0, .string ⟨#[]⟩, .int .i64 0, .string ⟨#[]⟩, .string ⟨#[]⟩, .int .i64 0, .string rs, .int .i64 0, .int .i64 0, .slice none 0 0]) := ((Blk.new_ _ _ _ (by simp)).alloc _).alloc _
  have hv2 : Hid (Blk ((((x3.alloc (.cells #[.int .i64 k, .string n, .int .i64 o, .string v] 23)).alloc (.cells #[.slice p1 n1 c1, .slice p2 n2 c2, .slice none 0 0, .slice none 0 0, .slice none 0 0, .string ⟨#[]⟩, .int .i64 0, .string ⟨#[]⟩, .string ⟨#[]⟩, .int .i64 0, .string rs, .int .i64 0, .int .i64 0, .slice none 0 0] 28)).alloc (.cells #[.int .i64 di, .int .i64 dp, .string dn, .string dor, .string ds, .string dd, .string da, .int .i64 dk, .int .i64 du, .slice daa dan dac] 42)).alloc (.cells #[.int .i64 k, .string n, .int .i64 (3 - o), .string v] 23)) (x3.heap.size + 2) 42 #[.int .i64 di, .int .i64 dp, .string dn, .string dor, .string ds, .string dd, .string da, .int .i64 dk, .int .i64 du, .slice daa dan dac]) := (Blk.new_ _ _ _ (by simp)).alloc _
  have hu : Hid (Blk ((((x3.alloc (.cells #[.int .i64 k, .string n, .int .i64 o, .string v] 23)).alloc (.cells #[.slice p1 n1 c1, .slice p2 n2 c2, .slice none 0 0, .slice none 0 0, .slice none 0 0, .string ⟨#[]⟩, .int .i64 0, .string ⟨#[]⟩, .string ⟨#[]⟩, .int .i64 0, .string rs, .int .i64 0, .int .i64 0, .slice none 0 0] 28)).alloc (.cells #[.int .i64 di, .int .i64 dp, .string dn, .string dor, .string ds, .string dd, .string da, .int .i64 dk, .int .i64 du, .slice daa dan dac] 42)).alloc (.cells #[.int .i64 k, .string n, .int .i64 (3 - o), .string v] 23)) (x3.heap.size + 3) 23 #[.int .i64 k, .string n, .int .i64 (3 - o), .string v]) := Blk.new_ _ _ _ (by simp)
  have hB4 : Hid (Below w.heap.size w ((((x3.alloc (.cells #[.int .i64 k, .string n, .int .i64 o, .string v] 23)).alloc (.cells #[.slice p1 n1 c1, .slice p2 n2 c2, .slice none 0 0, .slice none 0 0, .slice none 0 0, .string ⟨#[]⟩, .int .i64 0, .string ⟨#[]⟩, .string ⟨#[]⟩, .int .i64 0, .string rs, .int .i64 0, .int .i64 0, .slice none 0 0] 28)).alloc (.cells #[.int .i64 di, .int .i64 dp, .string dn, .string dor, .string ds, .string dd, .string da, .int .i64 dk, .int .i64 du, .slice daa dan dac] 42)).alloc (.cells #[.int .i64 k, .string n, .int .i64 (3 - o), .string v] 23))) := hB3.out.trans (hb4.mono hB3.out.size)
  have hxa4 : Hid (DftAt ((((x3.alloc (.cells #[.int .i64 k, .string n, .int .i64 o, .string v] 23)).alloc (.cells #[.slice p1 n1 c1, .slice p2 n2 c2, .slice none 0 0, .slice none 0 0, .slice none 0 0, .string ⟨#[]⟩, .int .i64 0, .string ⟨#[]⟩, .string ⟨#[]⟩, .int .i64 0, .string rs, .int .i64 0, .int .i64 0, .slice none 0 0] 28)).alloc (.cells #[.int .i64 di, .int .i64 dp, .string dn, .string dor, .string ds, .string dd, .string da, .int .i64 dk, .int .i64 du, .slice daa dan dac] 42)).alloc (.cells #[.int .i64 k, .string n, .int .i64 (3 - o), .string v] 23)) (mkDft rs (.slice p1 n1 c1) (.slice p2 n2 c2) pl tl)) := hxa3.out.below hb4
  have hda4 : Hid (DevAt ((((x3.alloc (.cells #[.int .i64 k, .string n, .int .i64 o, .string v] 23)).alloc (.cells #[.slice p1 n1 c1, .slice p2 n2 c2, .slice none 0 0, .slice none 0 0, .slice none 0 0, .string ⟨#[]⟩, .int .i64 0, .string ⟨#[]⟩, .string ⟨#[]⟩, .int .i64 0, .string rs, .int .i64 0, .int .i64 0, .slice none 0 0] 28)).alloc (.cells #[.int .i64 di, .int .i64 dp, .string dn, .string dor, .string ds, .string dd, .string da, .int .i64 dk, .int .i64 du, .slice daa dan dac] 42)).alloc (.cells #[.int .i64 k, .string n, .int .i64 (3 - o), .string v] 23)) ⟨di, dp, dn, dor, ds, dd, da, dk, du, daa, dan, dac, dat⟩) := RowAt.below hda3.out hb4
  clear hb4 hxa3 hda3 hB3
  generalize ((((x3.alloc (.cells #[.int .i64 k, .string n, .int .i64 o, .string v] 23)).alloc (.cells #[.slice p1 n1 c1, .slice p2 n2 c2, .slice none 0 0, .slice none 0 0, .slice none 0 0, .string ⟨#[]⟩, .int .i64 0, .string ⟨#[]⟩, .string ⟨#[]⟩, .int .i64 0, .string rs, .int .i64 0, .int .i64 0, .slice none 0 0] 28)).alloc (.cells #[.int .i64 di, .int .i64 dp, .string dn, .string dor, .string ds, .string dd, .string da, .int .i64 dk, .int .i64 du, .slice daa dan dac] 42)).alloc (.cells #[.int .i64 k, .string n, .int .i64 (3 - o), .string v] 23)) = w4 at *
  generalize x3.heap.size = b at *
  have hv : Hid (Blk w4 (b + 2) 42 #[.int .i64 di, .int .i64 dp, .string dn, .string dor, .string ds, .string dd, .string da, .int .i64 dk, .int .i64 du, .slice daa dan dac]) := hv2; clear hv2
  have hv9 : v.size ≤ 9223372036854775807 := by have := hv'.out; omega
  obtain ⟨st, hst⟩ : ∃ st, stS k o = st := ⟨_, rfl⟩
  obtain ⟨up, hup⟩ : ∃ up, upS' k o = up := ⟨_, rfl⟩
  have hSt : Hid (∀ Y, Below w4.heap.size w4 Y → Calls Try.prog 16 #[.agg #[.int .i64 k, .string n, .int .i64 o, .string v]] Y fun e w' => e = .returned (.bool st) ∧ Below w4.heap.size w4 w') := fun Y h => (static_any k n o v Y).mono fun e w' ⟨h1, h2⟩ => ⟨by rw [← hst]; exact h1, h.trans (h2.mono h.size)⟩
  have hUp : Hid (∀ Y, Below w4.heap.size w4 Y → Calls Try.prog 18 #[.agg #[.int .i64 k, .string n, .int .i64 o, .string v]] Y fun e w' => e = .returned (.bool up) ∧ Below w4.heap.size w4 w') := fun Y h => (upward_any k n o v Y).mono fun e w' ⟨h1, h2⟩ => ⟨by rw [← hup]; exact h1, h.trans (h2.mono h.size)⟩
  have hKn : Hid (∀ Y, Below w4.heap.size w4 Y → Calls Try.prog 8 #[] Y fun e w' => e = .returned (.bool true) ∧ Below w4.heap.size w4 w') := fun Y h => (mknown_any Y).mono fun e w' ⟨h1, h2⟩ => ⟨h1, h.trans (h2.mono h.size)⟩
  have hDe : Hid (∀ (o' : Int) Y, Below w4.heap.size w4 Y → Calls Try.prog 14 #[.agg #[.int .i64 k, .string n, .int .i64 o', .string v], .agg #[.int .i64 di, .int .i64 dp, .string dn, .string dor, .string ds, .string dd, .string da, .int .i64 dk, .int .i64 du, .slice daa dan dac]] Y fun e w' => e = .returned (.bool (devS k n o' v ⟨di, dp, dn, dor, ds, dd, da, dk, du, daa, dan, dac, dat⟩)) ∧ Below w4.heap.size w4 w') := fun o' Y h => (device_any k n o' v ⟨di, dp, dn, dor, ds, dd, da, dk, du, daa, dan, dac, dat⟩ Y (RowAt.below hda4.out h) hdf'.out hv9).mono fun e w' ⟨h1, h2⟩ => ⟨h1, h.trans (h2.mono h.size)⟩
  have hDr : Hid (∀ (o' : Int) Y, Below w4.heap.size w4 Y → Calls Try.prog 11 #[.agg #[.int .i64 k, .string n, .int .i64 o', .string v], .string ⟨#[97, 100, 100]⟩, .agg #[.slice p1 n1 c1, .slice p2 n2 c2, .slice none 0 0, .slice none 0 0, .slice none 0 0, .string ⟨#[]⟩, .int .i64 0, .string ⟨#[]⟩, .string ⟨#[]⟩, .int .i64 0, .string rs, .int .i64 0, .int .i64 0, .slice none 0 0]] Y fun e w' => e = .returned (.bool (draftS k n o' v ⟨#[97, 100, 100]⟩ (mkDft rs (.slice p1 n1 c1) (.slice p2 n2 c2) pl tl))) ∧ Below w4.heap.size w4 w') := fun o' Y h => (draft_any k n o' v ⟨#[97, 100, 100]⟩ (mkDft rs (.slice p1 n1 c1) (.slice p2 n2 c2) pl tl) Y (hxa4.out.below h) hxf'.out hv9 (by decide)).mono fun e w' ⟨h1, h2⟩ => ⟨h1, h.trans (h2.mono h.size)⟩
  obtain ⟨D1, hD1⟩ : ∃ D1, devS k n o v ⟨di, dp, dn, dor, ds, dd, da, dk, du, daa, dan, dac, dat⟩ = D1 := ⟨_, rfl⟩
  obtain ⟨D2, hD2⟩ : ∃ D2, devS k n (3 - o) v ⟨di, dp, dn, dor, ds, dd, da, dk, du, daa, dan, dac, dat⟩ = D2 := ⟨_, rfl⟩
  obtain ⟨F1, hF1⟩ : ∃ F1, draftS k n o v ⟨#[97, 100, 100]⟩ (mkDft rs (.slice p1 n1 c1) (.slice p2 n2 c2) pl tl) = F1 := ⟨_, rfl⟩
  obtain ⟨F2, hF2⟩ : ∃ F2, draftS k n (3 - o) v ⟨#[97, 100, 100]⟩ (mkDft rs (.slice p1 n1 c1) (.slice p2 n2 c2) pl tl) = F2 := ⟨_, rfl⟩
  have hDe1 := Lib.hid (hDe.out o)
  rw [hD1] at hDe1
  have hDe2 := Lib.hid (hDe.out (3 - o))
  rw [hD2] at hDe2
  have hDr1 := Lib.hid (hDr.out o)
  rw [hF1] at hDr1
  have hDr2 := Lib.hid (hDr.out (3 - o))
  rw [hF2] at hDr2
  have hdv : Hid ((st || up) = true → D2 = !D1) := fun h => by rw [← hD1, ← hD2]; exact dev_flip ho (by rw [hst, hup]; exact h)
  have hdn : Hid ((st || up) = false → D1 = false) := fun h => by rw [← hD1]; exact dev_no (by rw [hst, hup]; exact h)
  have hfv : Hid ((k = 1 ∨ k = 6 ∨ k = 7 ∨ k = 13) → F2 = !F1) := fun h => by rw [← hF1, ← hF2]; exact draft_flip ho h
  have hfn : Hid (¬ k = 1 → ¬ k = 6 → ¬ k = 7 → ¬ k = 13 → F1 = false) := fun h1 h6 h7 h13 => by rw [← hF1]; exact draft_no h1 h6 h7 h13
  clear hst hup hD1 hD2 hF1 hF2 hDe hDr hxa4 hda4 hxf' hdf' hv' hv9 ho
  have hw4 : Below w4.heap.size w4 w4 := Below.refl _ _
  have t0 := (ht.out.below hw4 ht.out.lt).cell 0
  have t1 := (ht.out.below hw4 ht.out.lt).cell 1
  have t2 := (ht.out.below hw4 ht.out.lt).cell 2
  have t3 := (ht.out.below hw4 ht.out.lt).cell 3
  simp only [List.getElem?_toArray, List.getElem?_cons_zero, List.getElem?_cons_succ] at t0 t1 t2 t3
  go_wp2_with fail
  refine (hSt.out _ hw4).mono ?_
  rintro e z1 ⟨rfl, hz1⟩
  clear hw4 t0 t1 t2 t3
  cases st with
  | true =>
    have e2 := hdv.out rfl
    cases D1 with
    | true =>
      obtain rfl : D2 = false := e2
      go_upto_region 6 with fail
      have t0 := (ht.out.below hz1 ht.out.lt).cell 0
      have t1 := (ht.out.below hz1 ht.out.lt).cell 1
      have t2 := (ht.out.below hz1 ht.out.lt).cell 2
      have t3 := (ht.out.below hz1 ht.out.lt).cell 3
      simp only [List.getElem?_toArray, List.getElem?_cons_zero, List.getElem?_cons_succ] at t0 t1 t2 t3
      have u0 := (hu.out.below hz1 hu.out.lt).cell 0
      have u1 := (hu.out.below hz1 hu.out.lt).cell 1
      have u2 := (hu.out.below hz1 hu.out.lt).cell 2
      have u3 := (hu.out.below hz1 hu.out.lt).cell 3
      simp only [List.getElem?_toArray, List.getElem?_cons_zero, List.getElem?_cons_succ] at u0 u1 u2 u3
      have v0 := (hv.out.below hz1 hv.out.lt).cell 0
      have v1 := (hv.out.below hz1 hv.out.lt).cell 1
      have v2 := (hv.out.below hz1 hv.out.lt).cell 2
      have v3 := (hv.out.below hz1 hv.out.lt).cell 3
      have v4 := (hv.out.below hz1 hv.out.lt).cell 4
      have v5 := (hv.out.below hz1 hv.out.lt).cell 5
      have v6 := (hv.out.below hz1 hv.out.lt).cell 6
      have v7 := (hv.out.below hz1 hv.out.lt).cell 7
      have v8 := (hv.out.below hz1 hv.out.lt).cell 8
      have v9 := (hv.out.below hz1 hv.out.lt).cell 9
      simp only [List.getElem?_toArray, List.getElem?_cons_zero, List.getElem?_cons_succ] at v0 v1 v2 v3 v4 v5 v6 v7 v8 v9
      have hS0 : Below w4.heap.size w4 z1 ∧ z1.cell? ⟨b, 0, none⟩ = some (.int .i64 k) ∧ z1.cell? ⟨b, 1, none⟩ = some (.string n) ∧ z1.cell? ⟨b, 2, none⟩ = some (.int .i64 (o)) ∧ z1.cell? ⟨b, 3, none⟩ = some (.string v) ∧ z1.cell? ⟨(b + 3), 0, none⟩ = some (.int .i64 k) ∧ z1.cell? ⟨(b + 3), 1, none⟩ = some (.string n) ∧ z1.cell? ⟨(b + 3), 2, none⟩ = some (.int .i64 (3 - o)) ∧ z1.cell? ⟨(b + 3), 3, none⟩ = some (.string v) ∧ z1.cell? ⟨(b + 2), 0, none⟩ = some (.int .i64 di) ∧ z1.cell? ⟨(b + 2), 1, none⟩ = some (.int .i64 dp) ∧ z1.cell? ⟨(b + 2), 2, none⟩ = some (.string dn) ∧ z1.cell? ⟨(b + 2), 3, none⟩ = some (.string dor) ∧ z1.cell? ⟨(b + 2), 4, none⟩ = some (.string ds) ∧ z1.cell? ⟨(b + 2), 5, none⟩ = some (.string dd) ∧ z1.cell? ⟨(b + 2), 6, none⟩ = some (.string da) ∧ z1.cell? ⟨(b + 2), 7, none⟩ = some (.int .i64 dk) ∧ z1.cell? ⟨(b + 2), 8, none⟩ = some (.int .i64 du) ∧ z1.cell? ⟨(b + 2), 9, none⟩ = some (.slice daa dan dac) := ⟨hz1, t0, t1, t2, t3, u0, u1, u2, u3, v0, v1, v2, v3, v4, v5, v6, v7, v8, v9⟩
      have hS1 : Below w4.heap.size w4 z1.drew ∧ z1.drew.cell? ⟨b, 0, none⟩ = some (.int .i64 k) ∧ z1.drew.cell? ⟨b, 1, none⟩ = some (.string n) ∧ z1.drew.cell? ⟨b, 2, none⟩ = some (.int .i64 (o)) ∧ z1.drew.cell? ⟨b, 3, none⟩ = some (.string v) ∧ z1.drew.cell? ⟨(b + 3), 0, none⟩ = some (.int .i64 k) ∧ z1.drew.cell? ⟨(b + 3), 1, none⟩ = some (.string n) ∧ z1.drew.cell? ⟨(b + 3), 2, none⟩ = some (.int .i64 (3 - o)) ∧ z1.drew.cell? ⟨(b + 3), 3, none⟩ = some (.string v) ∧ z1.drew.cell? ⟨(b + 2), 0, none⟩ = some (.int .i64 di) ∧ z1.drew.cell? ⟨(b + 2), 1, none⟩ = some (.int .i64 dp) ∧ z1.drew.cell? ⟨(b + 2), 2, none⟩ = some (.string dn) ∧ z1.drew.cell? ⟨(b + 2), 3, none⟩ = some (.string dor) ∧ z1.drew.cell? ⟨(b + 2), 4, none⟩ = some (.string ds) ∧ z1.drew.cell? ⟨(b + 2), 5, none⟩ = some (.string dd) ∧ z1.drew.cell? ⟨(b + 2), 6, none⟩ = some (.string da) ∧ z1.drew.cell? ⟨(b + 2), 7, none⟩ = some (.int .i64 dk) ∧ z1.drew.cell? ⟨(b + 2), 8, none⟩ = some (.int .i64 du) ∧ z1.drew.cell? ⟨(b + 2), 9, none⟩ = some (.slice daa dan dac) := ⟨Below.drew hz1, t0, t1, t2, t3, u0, u1, u2, u3, v0, v1, v2, v3, v4, v5, v6, v7, v8, v9⟩
      have hk : Hid (∀ y, Below w4.heap.size w4 y → Below w4.heap.size w4 y ∧ y.cell? ⟨b, 0, none⟩ = some (.int .i64 k) ∧ y.cell? ⟨b, 1, none⟩ = some (.string n) ∧ y.cell? ⟨b, 2, none⟩ = some (.int .i64 (o)) ∧ y.cell? ⟨b, 3, none⟩ = some (.string v) ∧ y.cell? ⟨(b + 3), 0, none⟩ = some (.int .i64 k) ∧ y.cell? ⟨(b + 3), 1, none⟩ = some (.string n) ∧ y.cell? ⟨(b + 3), 2, none⟩ = some (.int .i64 (3 - o)) ∧ y.cell? ⟨(b + 3), 3, none⟩ = some (.string v) ∧ y.cell? ⟨(b + 2), 0, none⟩ = some (.int .i64 di) ∧ y.cell? ⟨(b + 2), 1, none⟩ = some (.int .i64 dp) ∧ y.cell? ⟨(b + 2), 2, none⟩ = some (.string dn) ∧ y.cell? ⟨(b + 2), 3, none⟩ = some (.string dor) ∧ y.cell? ⟨(b + 2), 4, none⟩ = some (.string ds) ∧ y.cell? ⟨(b + 2), 5, none⟩ = some (.string dd) ∧ y.cell? ⟨(b + 2), 6, none⟩ = some (.string da) ∧ y.cell? ⟨(b + 2), 7, none⟩ = some (.int .i64 dk) ∧ y.cell? ⟨(b + 2), 8, none⟩ = some (.int .i64 du) ∧ y.cell? ⟨(b + 2), 9, none⟩ = some (.slice daa dan dac)) := fun y h => by
        have et := ht.out.below h ht.out.lt
        have eu := hu.out.below h hu.out.lt
        have ev := hv.out.below h hv.out.lt
        exact ⟨h, (et.cell 0).trans rfl, (et.cell 1).trans rfl, (et.cell 2).trans rfl, (et.cell 3).trans rfl, (eu.cell 0).trans rfl, (eu.cell 1).trans rfl, (eu.cell 2).trans rfl, (eu.cell 3).trans rfl, (ev.cell 0).trans rfl, (ev.cell 1).trans rfl, (ev.cell 2).trans rfl, (ev.cell 3).trans rfl, (ev.cell 4).trans rfl, (ev.cell 5).trans rfl, (ev.cell 6).trans rfl, (ev.cell 7).trans rfl, (ev.cell 8).trans rfl, (ev.cell 9).trans rfl⟩
      (first | (go_must (go_region_held3 (fun w' => Below w4.heap.size w4 w' ∧ w'.cell? ⟨b, 0, none⟩ = some (.int .i64 k) ∧ w'.cell? ⟨b, 1, none⟩ = some (.string n) ∧ w'.cell? ⟨b, 2, none⟩ = some (.int .i64 (o)) ∧ w'.cell? ⟨b, 3, none⟩ = some (.string v) ∧ w'.cell? ⟨(b + 3), 0, none⟩ = some (.int .i64 k) ∧ w'.cell? ⟨(b + 3), 1, none⟩ = some (.string n) ∧ w'.cell? ⟨(b + 3), 2, none⟩ = some (.int .i64 (3 - o)) ∧ w'.cell? ⟨(b + 3), 3, none⟩ = some (.string v) ∧ w'.cell? ⟨(b + 2), 0, none⟩ = some (.int .i64 di) ∧ w'.cell? ⟨(b + 2), 1, none⟩ = some (.int .i64 dp) ∧ w'.cell? ⟨(b + 2), 2, none⟩ = some (.string dn) ∧ w'.cell? ⟨(b + 2), 3, none⟩ = some (.string dor) ∧ w'.cell? ⟨(b + 2), 4, none⟩ = some (.string ds) ∧ w'.cell? ⟨(b + 2), 5, none⟩ = some (.string dd) ∧ w'.cell? ⟨(b + 2), 6, none⟩ = some (.string da) ∧ w'.cell? ⟨(b + 2), 7, none⟩ = some (.int .i64 dk) ∧ w'.cell? ⟨(b + 2), 8, none⟩ = some (.int .i64 du) ∧ w'.cell? ⟨(b + 2), 9, none⟩ = some (.slice daa dan dac))
        ((first | exact hS0 | exact hS1 | exact hk.out _ hy1 | exact hk.out _ hy2 | exact hk.out _ hy3))
        (first | (go_at_call 14; first | (refine (hDe2.out _ hy1).mono ?_; rintro e y2 ⟨rfl, hy2⟩) | (refine (hDe1.out _ hS1.1).mono ?_; rintro e y1 ⟨rfl, hy1⟩)) | (go_at_call 8; refine (hKn.out _ hy2).mono ?_; rintro e y3 ⟨rfl, hy3⟩) | fail))) | fail)
      have hfin := Lib.hid (hB4.out.trans (hy3.mono hB4.out.size))
      clear hy1 hy2 hy3 hk hS0 hS1 t0 t1 t2 t3 u0 u1 u2 u3 v0 v1 v2 v3 v4 v5 v6 v7 v8 v9
      go_wp2_with fail
      go_ret
      exact ⟨rfl, hfin.out⟩
    | false =>
      obtain rfl : D2 = true := e2
      go_upto_region 6 with fail
      have t0 := (ht.out.below hz1 ht.out.lt).cell 0
      have t1 := (ht.out.below hz1 ht.out.lt).cell 1
      have t2 := (ht.out.below hz1 ht.out.lt).cell 2
      have t3 := (ht.out.below hz1 ht.out.lt).cell 3
      simp only [List.getElem?_toArray, List.getElem?_cons_zero, List.getElem?_cons_succ] at t0 t1 t2 t3
      have u0 := (hu.out.below hz1 hu.out.lt).cell 0
      have u1 := (hu.out.below hz1 hu.out.lt).cell 1
      have u2 := (hu.out.below hz1 hu.out.lt).cell 2
      have u3 := (hu.out.below hz1 hu.out.lt).cell 3
      simp only [List.getElem?_toArray, List.getElem?_cons_zero, List.getElem?_cons_succ] at u0 u1 u2 u3
      have v0 := (hv.out.below hz1 hv.out.lt).cell 0
      have v1 := (hv.out.below hz1 hv.out.lt).cell 1
      have v2 := (hv.out.below hz1 hv.out.lt).cell 2
      have v3 := (hv.out.below hz1 hv.out.lt).cell 3
      have v4 := (hv.out.below hz1 hv.out.lt).cell 4
      have v5 := (hv.out.below hz1 hv.out.lt).cell 5
      have v6 := (hv.out.below hz1 hv.out.lt).cell 6
      have v7 := (hv.out.below hz1 hv.out.lt).cell 7
      have v8 := (hv.out.below hz1 hv.out.lt).cell 8
      have v9 := (hv.out.below hz1 hv.out.lt).cell 9
      simp only [List.getElem?_toArray, List.getElem?_cons_zero, List.getElem?_cons_succ] at v0 v1 v2 v3 v4 v5 v6 v7 v8 v9
      have hS0 : Below w4.heap.size w4 z1 ∧ z1.cell? ⟨b, 0, none⟩ = some (.int .i64 k) ∧ z1.cell? ⟨b, 1, none⟩ = some (.string n) ∧ z1.cell? ⟨b, 2, none⟩ = some (.int .i64 (o)) ∧ z1.cell? ⟨b, 3, none⟩ = some (.string v) ∧ z1.cell? ⟨(b + 3), 0, none⟩ = some (.int .i64 k) ∧ z1.cell? ⟨(b + 3), 1, none⟩ = some (.string n) ∧ z1.cell? ⟨(b + 3), 2, none⟩ = some (.int .i64 (3 - o)) ∧ z1.cell? ⟨(b + 3), 3, none⟩ = some (.string v) ∧ z1.cell? ⟨(b + 2), 0, none⟩ = some (.int .i64 di) ∧ z1.cell? ⟨(b + 2), 1, none⟩ = some (.int .i64 dp) ∧ z1.cell? ⟨(b + 2), 2, none⟩ = some (.string dn) ∧ z1.cell? ⟨(b + 2), 3, none⟩ = some (.string dor) ∧ z1.cell? ⟨(b + 2), 4, none⟩ = some (.string ds) ∧ z1.cell? ⟨(b + 2), 5, none⟩ = some (.string dd) ∧ z1.cell? ⟨(b + 2), 6, none⟩ = some (.string da) ∧ z1.cell? ⟨(b + 2), 7, none⟩ = some (.int .i64 dk) ∧ z1.cell? ⟨(b + 2), 8, none⟩ = some (.int .i64 du) ∧ z1.cell? ⟨(b + 2), 9, none⟩ = some (.slice daa dan dac) := ⟨hz1, t0, t1, t2, t3, u0, u1, u2, u3, v0, v1, v2, v3, v4, v5, v6, v7, v8, v9⟩
      have hS1 : Below w4.heap.size w4 z1.drew ∧ z1.drew.cell? ⟨b, 0, none⟩ = some (.int .i64 k) ∧ z1.drew.cell? ⟨b, 1, none⟩ = some (.string n) ∧ z1.drew.cell? ⟨b, 2, none⟩ = some (.int .i64 (o)) ∧ z1.drew.cell? ⟨b, 3, none⟩ = some (.string v) ∧ z1.drew.cell? ⟨(b + 3), 0, none⟩ = some (.int .i64 k) ∧ z1.drew.cell? ⟨(b + 3), 1, none⟩ = some (.string n) ∧ z1.drew.cell? ⟨(b + 3), 2, none⟩ = some (.int .i64 (3 - o)) ∧ z1.drew.cell? ⟨(b + 3), 3, none⟩ = some (.string v) ∧ z1.drew.cell? ⟨(b + 2), 0, none⟩ = some (.int .i64 di) ∧ z1.drew.cell? ⟨(b + 2), 1, none⟩ = some (.int .i64 dp) ∧ z1.drew.cell? ⟨(b + 2), 2, none⟩ = some (.string dn) ∧ z1.drew.cell? ⟨(b + 2), 3, none⟩ = some (.string dor) ∧ z1.drew.cell? ⟨(b + 2), 4, none⟩ = some (.string ds) ∧ z1.drew.cell? ⟨(b + 2), 5, none⟩ = some (.string dd) ∧ z1.drew.cell? ⟨(b + 2), 6, none⟩ = some (.string da) ∧ z1.drew.cell? ⟨(b + 2), 7, none⟩ = some (.int .i64 dk) ∧ z1.drew.cell? ⟨(b + 2), 8, none⟩ = some (.int .i64 du) ∧ z1.drew.cell? ⟨(b + 2), 9, none⟩ = some (.slice daa dan dac) := ⟨Below.drew hz1, t0, t1, t2, t3, u0, u1, u2, u3, v0, v1, v2, v3, v4, v5, v6, v7, v8, v9⟩
      have hk : Hid (∀ y, Below w4.heap.size w4 y → Below w4.heap.size w4 y ∧ y.cell? ⟨b, 0, none⟩ = some (.int .i64 k) ∧ y.cell? ⟨b, 1, none⟩ = some (.string n) ∧ y.cell? ⟨b, 2, none⟩ = some (.int .i64 (o)) ∧ y.cell? ⟨b, 3, none⟩ = some (.string v) ∧ y.cell? ⟨(b + 3), 0, none⟩ = some (.int .i64 k) ∧ y.cell? ⟨(b + 3), 1, none⟩ = some (.string n) ∧ y.cell? ⟨(b + 3), 2, none⟩ = some (.int .i64 (3 - o)) ∧ y.cell? ⟨(b + 3), 3, none⟩ = some (.string v) ∧ y.cell? ⟨(b + 2), 0, none⟩ = some (.int .i64 di) ∧ y.cell? ⟨(b + 2), 1, none⟩ = some (.int .i64 dp) ∧ y.cell? ⟨(b + 2), 2, none⟩ = some (.string dn) ∧ y.cell? ⟨(b + 2), 3, none⟩ = some (.string dor) ∧ y.cell? ⟨(b + 2), 4, none⟩ = some (.string ds) ∧ y.cell? ⟨(b + 2), 5, none⟩ = some (.string dd) ∧ y.cell? ⟨(b + 2), 6, none⟩ = some (.string da) ∧ y.cell? ⟨(b + 2), 7, none⟩ = some (.int .i64 dk) ∧ y.cell? ⟨(b + 2), 8, none⟩ = some (.int .i64 du) ∧ y.cell? ⟨(b + 2), 9, none⟩ = some (.slice daa dan dac)) := fun y h => by
        have et := ht.out.below h ht.out.lt
        have eu := hu.out.below h hu.out.lt
        have ev := hv.out.below h hv.out.lt
        exact ⟨h, (et.cell 0).trans rfl, (et.cell 1).trans rfl, (et.cell 2).trans rfl, (et.cell 3).trans rfl, (eu.cell 0).trans rfl, (eu.cell 1).trans rfl, (eu.cell 2).trans rfl, (eu.cell 3).trans rfl, (ev.cell 0).trans rfl, (ev.cell 1).trans rfl, (ev.cell 2).trans rfl, (ev.cell 3).trans rfl, (ev.cell 4).trans rfl, (ev.cell 5).trans rfl, (ev.cell 6).trans rfl, (ev.cell 7).trans rfl, (ev.cell 8).trans rfl, (ev.cell 9).trans rfl⟩
      (first | (go_must (go_region_held3 (fun w' => Below w4.heap.size w4 w' ∧ w'.cell? ⟨b, 0, none⟩ = some (.int .i64 k) ∧ w'.cell? ⟨b, 1, none⟩ = some (.string n) ∧ w'.cell? ⟨b, 2, none⟩ = some (.int .i64 (o)) ∧ w'.cell? ⟨b, 3, none⟩ = some (.string v) ∧ w'.cell? ⟨(b + 3), 0, none⟩ = some (.int .i64 k) ∧ w'.cell? ⟨(b + 3), 1, none⟩ = some (.string n) ∧ w'.cell? ⟨(b + 3), 2, none⟩ = some (.int .i64 (3 - o)) ∧ w'.cell? ⟨(b + 3), 3, none⟩ = some (.string v) ∧ w'.cell? ⟨(b + 2), 0, none⟩ = some (.int .i64 di) ∧ w'.cell? ⟨(b + 2), 1, none⟩ = some (.int .i64 dp) ∧ w'.cell? ⟨(b + 2), 2, none⟩ = some (.string dn) ∧ w'.cell? ⟨(b + 2), 3, none⟩ = some (.string dor) ∧ w'.cell? ⟨(b + 2), 4, none⟩ = some (.string ds) ∧ w'.cell? ⟨(b + 2), 5, none⟩ = some (.string dd) ∧ w'.cell? ⟨(b + 2), 6, none⟩ = some (.string da) ∧ w'.cell? ⟨(b + 2), 7, none⟩ = some (.int .i64 dk) ∧ w'.cell? ⟨(b + 2), 8, none⟩ = some (.int .i64 du) ∧ w'.cell? ⟨(b + 2), 9, none⟩ = some (.slice daa dan dac))
        ((first | exact hS0 | exact hS1 | exact hk.out _ hy1 | exact hk.out _ hy2 | exact hk.out _ hy3))
        (first | (go_at_call 14; first | (refine (hDe2.out _ hy1).mono ?_; rintro e y2 ⟨rfl, hy2⟩) | (refine (hDe1.out _ hS1.1).mono ?_; rintro e y1 ⟨rfl, hy1⟩)) | (go_at_call 8; refine (hKn.out _ hy2).mono ?_; rintro e y3 ⟨rfl, hy3⟩) | fail))) | fail)
      have hfin := Lib.hid (hB4.out.trans (hy3.mono hB4.out.size))
      clear hy1 hy2 hy3 hk hS0 hS1 t0 t1 t2 t3 u0 u1 u2 u3 v0 v1 v2 v3 v4 v5 v6 v7 v8 v9
      go_wp2_with fail
      go_ret
      exact ⟨rfl, hfin.out⟩
  | false =>
    have t0 := (ht.out.below hz1 ht.out.lt).cell 0
    have t1 := (ht.out.below hz1 ht.out.lt).cell 1
    have t2 := (ht.out.below hz1 ht.out.lt).cell 2
    have t3 := (ht.out.below hz1 ht.out.lt).cell 3
    simp only [List.getElem?_toArray, List.getElem?_cons_zero, List.getElem?_cons_succ] at t0 t1 t2 t3
    go_wp2_with fail
    refine (hUp.out _ hz1).mono ?_
    rintro e z2 ⟨rfl, hz2⟩
    clear hz1 t0 t1 t2 t3
    cases up with
    | true =>
      have e2 := hdv.out rfl
      cases D1 with
      | true =>
        obtain rfl : D2 = false := e2
        go_upto_region 6 with fail
        have t0 := (ht.out.below hz2 ht.out.lt).cell 0
        have t1 := (ht.out.below hz2 ht.out.lt).cell 1
        have t2 := (ht.out.below hz2 ht.out.lt).cell 2
        have t3 := (ht.out.below hz2 ht.out.lt).cell 3
        simp only [List.getElem?_toArray, List.getElem?_cons_zero, List.getElem?_cons_succ] at t0 t1 t2 t3
        have u0 := (hu.out.below hz2 hu.out.lt).cell 0
        have u1 := (hu.out.below hz2 hu.out.lt).cell 1
        have u2 := (hu.out.below hz2 hu.out.lt).cell 2
        have u3 := (hu.out.below hz2 hu.out.lt).cell 3
        simp only [List.getElem?_toArray, List.getElem?_cons_zero, List.getElem?_cons_succ] at u0 u1 u2 u3
        have v0 := (hv.out.below hz2 hv.out.lt).cell 0
        have v1 := (hv.out.below hz2 hv.out.lt).cell 1
        have v2 := (hv.out.below hz2 hv.out.lt).cell 2
        have v3 := (hv.out.below hz2 hv.out.lt).cell 3
        have v4 := (hv.out.below hz2 hv.out.lt).cell 4
        have v5 := (hv.out.below hz2 hv.out.lt).cell 5
        have v6 := (hv.out.below hz2 hv.out.lt).cell 6
        have v7 := (hv.out.below hz2 hv.out.lt).cell 7
        have v8 := (hv.out.below hz2 hv.out.lt).cell 8
        have v9 := (hv.out.below hz2 hv.out.lt).cell 9
        simp only [List.getElem?_toArray, List.getElem?_cons_zero, List.getElem?_cons_succ] at v0 v1 v2 v3 v4 v5 v6 v7 v8 v9
        have hS0 : Below w4.heap.size w4 z2 ∧ z2.cell? ⟨b, 0, none⟩ = some (.int .i64 k) ∧ z2.cell? ⟨b, 1, none⟩ = some (.string n) ∧ z2.cell? ⟨b, 2, none⟩ = some (.int .i64 (o)) ∧ z2.cell? ⟨b, 3, none⟩ = some (.string v) ∧ z2.cell? ⟨(b + 3), 0, none⟩ = some (.int .i64 k) ∧ z2.cell? ⟨(b + 3), 1, none⟩ = some (.string n) ∧ z2.cell? ⟨(b + 3), 2, none⟩ = some (.int .i64 (3 - o)) ∧ z2.cell? ⟨(b + 3), 3, none⟩ = some (.string v) ∧ z2.cell? ⟨(b + 2), 0, none⟩ = some (.int .i64 di) ∧ z2.cell? ⟨(b + 2), 1, none⟩ = some (.int .i64 dp) ∧ z2.cell? ⟨(b + 2), 2, none⟩ = some (.string dn) ∧ z2.cell? ⟨(b + 2), 3, none⟩ = some (.string dor) ∧ z2.cell? ⟨(b + 2), 4, none⟩ = some (.string ds) ∧ z2.cell? ⟨(b + 2), 5, none⟩ = some (.string dd) ∧ z2.cell? ⟨(b + 2), 6, none⟩ = some (.string da) ∧ z2.cell? ⟨(b + 2), 7, none⟩ = some (.int .i64 dk) ∧ z2.cell? ⟨(b + 2), 8, none⟩ = some (.int .i64 du) ∧ z2.cell? ⟨(b + 2), 9, none⟩ = some (.slice daa dan dac) := ⟨hz2, t0, t1, t2, t3, u0, u1, u2, u3, v0, v1, v2, v3, v4, v5, v6, v7, v8, v9⟩
        have hS1 : Below w4.heap.size w4 z2.drew ∧ z2.drew.cell? ⟨b, 0, none⟩ = some (.int .i64 k) ∧ z2.drew.cell? ⟨b, 1, none⟩ = some (.string n) ∧ z2.drew.cell? ⟨b, 2, none⟩ = some (.int .i64 (o)) ∧ z2.drew.cell? ⟨b, 3, none⟩ = some (.string v) ∧ z2.drew.cell? ⟨(b + 3), 0, none⟩ = some (.int .i64 k) ∧ z2.drew.cell? ⟨(b + 3), 1, none⟩ = some (.string n) ∧ z2.drew.cell? ⟨(b + 3), 2, none⟩ = some (.int .i64 (3 - o)) ∧ z2.drew.cell? ⟨(b + 3), 3, none⟩ = some (.string v) ∧ z2.drew.cell? ⟨(b + 2), 0, none⟩ = some (.int .i64 di) ∧ z2.drew.cell? ⟨(b + 2), 1, none⟩ = some (.int .i64 dp) ∧ z2.drew.cell? ⟨(b + 2), 2, none⟩ = some (.string dn) ∧ z2.drew.cell? ⟨(b + 2), 3, none⟩ = some (.string dor) ∧ z2.drew.cell? ⟨(b + 2), 4, none⟩ = some (.string ds) ∧ z2.drew.cell? ⟨(b + 2), 5, none⟩ = some (.string dd) ∧ z2.drew.cell? ⟨(b + 2), 6, none⟩ = some (.string da) ∧ z2.drew.cell? ⟨(b + 2), 7, none⟩ = some (.int .i64 dk) ∧ z2.drew.cell? ⟨(b + 2), 8, none⟩ = some (.int .i64 du) ∧ z2.drew.cell? ⟨(b + 2), 9, none⟩ = some (.slice daa dan dac) := ⟨Below.drew hz2, t0, t1, t2, t3, u0, u1, u2, u3, v0, v1, v2, v3, v4, v5, v6, v7, v8, v9⟩
        have hk : Hid (∀ y, Below w4.heap.size w4 y → Below w4.heap.size w4 y ∧ y.cell? ⟨b, 0, none⟩ = some (.int .i64 k) ∧ y.cell? ⟨b, 1, none⟩ = some (.string n) ∧ y.cell? ⟨b, 2, none⟩ = some (.int .i64 (o)) ∧ y.cell? ⟨b, 3, none⟩ = some (.string v) ∧ y.cell? ⟨(b + 3), 0, none⟩ = some (.int .i64 k) ∧ y.cell? ⟨(b + 3), 1, none⟩ = some (.string n) ∧ y.cell? ⟨(b + 3), 2, none⟩ = some (.int .i64 (3 - o)) ∧ y.cell? ⟨(b + 3), 3, none⟩ = some (.string v) ∧ y.cell? ⟨(b + 2), 0, none⟩ = some (.int .i64 di) ∧ y.cell? ⟨(b + 2), 1, none⟩ = some (.int .i64 dp) ∧ y.cell? ⟨(b + 2), 2, none⟩ = some (.string dn) ∧ y.cell? ⟨(b + 2), 3, none⟩ = some (.string dor) ∧ y.cell? ⟨(b + 2), 4, none⟩ = some (.string ds) ∧ y.cell? ⟨(b + 2), 5, none⟩ = some (.string dd) ∧ y.cell? ⟨(b + 2), 6, none⟩ = some (.string da) ∧ y.cell? ⟨(b + 2), 7, none⟩ = some (.int .i64 dk) ∧ y.cell? ⟨(b + 2), 8, none⟩ = some (.int .i64 du) ∧ y.cell? ⟨(b + 2), 9, none⟩ = some (.slice daa dan dac)) := fun y h => by
          have et := ht.out.below h ht.out.lt
          have eu := hu.out.below h hu.out.lt
          have ev := hv.out.below h hv.out.lt
          exact ⟨h, (et.cell 0).trans rfl, (et.cell 1).trans rfl, (et.cell 2).trans rfl, (et.cell 3).trans rfl, (eu.cell 0).trans rfl, (eu.cell 1).trans rfl, (eu.cell 2).trans rfl, (eu.cell 3).trans rfl, (ev.cell 0).trans rfl, (ev.cell 1).trans rfl, (ev.cell 2).trans rfl, (ev.cell 3).trans rfl, (ev.cell 4).trans rfl, (ev.cell 5).trans rfl, (ev.cell 6).trans rfl, (ev.cell 7).trans rfl, (ev.cell 8).trans rfl, (ev.cell 9).trans rfl⟩
        (first | (go_must (go_region_held3 (fun w' => Below w4.heap.size w4 w' ∧ w'.cell? ⟨b, 0, none⟩ = some (.int .i64 k) ∧ w'.cell? ⟨b, 1, none⟩ = some (.string n) ∧ w'.cell? ⟨b, 2, none⟩ = some (.int .i64 (o)) ∧ w'.cell? ⟨b, 3, none⟩ = some (.string v) ∧ w'.cell? ⟨(b + 3), 0, none⟩ = some (.int .i64 k) ∧ w'.cell? ⟨(b + 3), 1, none⟩ = some (.string n) ∧ w'.cell? ⟨(b + 3), 2, none⟩ = some (.int .i64 (3 - o)) ∧ w'.cell? ⟨(b + 3), 3, none⟩ = some (.string v) ∧ w'.cell? ⟨(b + 2), 0, none⟩ = some (.int .i64 di) ∧ w'.cell? ⟨(b + 2), 1, none⟩ = some (.int .i64 dp) ∧ w'.cell? ⟨(b + 2), 2, none⟩ = some (.string dn) ∧ w'.cell? ⟨(b + 2), 3, none⟩ = some (.string dor) ∧ w'.cell? ⟨(b + 2), 4, none⟩ = some (.string ds) ∧ w'.cell? ⟨(b + 2), 5, none⟩ = some (.string dd) ∧ w'.cell? ⟨(b + 2), 6, none⟩ = some (.string da) ∧ w'.cell? ⟨(b + 2), 7, none⟩ = some (.int .i64 dk) ∧ w'.cell? ⟨(b + 2), 8, none⟩ = some (.int .i64 du) ∧ w'.cell? ⟨(b + 2), 9, none⟩ = some (.slice daa dan dac))
          ((first | exact hS0 | exact hS1 | exact hk.out _ hy1 | exact hk.out _ hy2 | exact hk.out _ hy3))
          (first | (go_at_call 14; first | (refine (hDe2.out _ hy1).mono ?_; rintro e y2 ⟨rfl, hy2⟩) | (refine (hDe1.out _ hS1.1).mono ?_; rintro e y1 ⟨rfl, hy1⟩)) | (go_at_call 8; refine (hKn.out _ hy2).mono ?_; rintro e y3 ⟨rfl, hy3⟩) | fail))) | fail)
        have hfin := Lib.hid (hB4.out.trans (hy3.mono hB4.out.size))
        clear hy1 hy2 hy3 hk hS0 hS1 t0 t1 t2 t3 u0 u1 u2 u3 v0 v1 v2 v3 v4 v5 v6 v7 v8 v9
        go_wp2_with fail
        go_ret
        exact ⟨rfl, hfin.out⟩
      | false =>
        obtain rfl : D2 = true := e2
        go_upto_region 6 with fail
        have t0 := (ht.out.below hz2 ht.out.lt).cell 0
        have t1 := (ht.out.below hz2 ht.out.lt).cell 1
        have t2 := (ht.out.below hz2 ht.out.lt).cell 2
        have t3 := (ht.out.below hz2 ht.out.lt).cell 3
        simp only [List.getElem?_toArray, List.getElem?_cons_zero, List.getElem?_cons_succ] at t0 t1 t2 t3
        have u0 := (hu.out.below hz2 hu.out.lt).cell 0
        have u1 := (hu.out.below hz2 hu.out.lt).cell 1
        have u2 := (hu.out.below hz2 hu.out.lt).cell 2
        have u3 := (hu.out.below hz2 hu.out.lt).cell 3
        simp only [List.getElem?_toArray, List.getElem?_cons_zero, List.getElem?_cons_succ] at u0 u1 u2 u3
        have v0 := (hv.out.below hz2 hv.out.lt).cell 0
        have v1 := (hv.out.below hz2 hv.out.lt).cell 1
        have v2 := (hv.out.below hz2 hv.out.lt).cell 2
        have v3 := (hv.out.below hz2 hv.out.lt).cell 3
        have v4 := (hv.out.below hz2 hv.out.lt).cell 4
        have v5 := (hv.out.below hz2 hv.out.lt).cell 5
        have v6 := (hv.out.below hz2 hv.out.lt).cell 6
        have v7 := (hv.out.below hz2 hv.out.lt).cell 7
        have v8 := (hv.out.below hz2 hv.out.lt).cell 8
        have v9 := (hv.out.below hz2 hv.out.lt).cell 9
        simp only [List.getElem?_toArray, List.getElem?_cons_zero, List.getElem?_cons_succ] at v0 v1 v2 v3 v4 v5 v6 v7 v8 v9
        have hS0 : Below w4.heap.size w4 z2 ∧ z2.cell? ⟨b, 0, none⟩ = some (.int .i64 k) ∧ z2.cell? ⟨b, 1, none⟩ = some (.string n) ∧ z2.cell? ⟨b, 2, none⟩ = some (.int .i64 (o)) ∧ z2.cell? ⟨b, 3, none⟩ = some (.string v) ∧ z2.cell? ⟨(b + 3), 0, none⟩ = some (.int .i64 k) ∧ z2.cell? ⟨(b + 3), 1, none⟩ = some (.string n) ∧ z2.cell? ⟨(b + 3), 2, none⟩ = some (.int .i64 (3 - o)) ∧ z2.cell? ⟨(b + 3), 3, none⟩ = some (.string v) ∧ z2.cell? ⟨(b + 2), 0, none⟩ = some (.int .i64 di) ∧ z2.cell? ⟨(b + 2), 1, none⟩ = some (.int .i64 dp) ∧ z2.cell? ⟨(b + 2), 2, none⟩ = some (.string dn) ∧ z2.cell? ⟨(b + 2), 3, none⟩ = some (.string dor) ∧ z2.cell? ⟨(b + 2), 4, none⟩ = some (.string ds) ∧ z2.cell? ⟨(b + 2), 5, none⟩ = some (.string dd) ∧ z2.cell? ⟨(b + 2), 6, none⟩ = some (.string da) ∧ z2.cell? ⟨(b + 2), 7, none⟩ = some (.int .i64 dk) ∧ z2.cell? ⟨(b + 2), 8, none⟩ = some (.int .i64 du) ∧ z2.cell? ⟨(b + 2), 9, none⟩ = some (.slice daa dan dac) := ⟨hz2, t0, t1, t2, t3, u0, u1, u2, u3, v0, v1, v2, v3, v4, v5, v6, v7, v8, v9⟩
        have hS1 : Below w4.heap.size w4 z2.drew ∧ z2.drew.cell? ⟨b, 0, none⟩ = some (.int .i64 k) ∧ z2.drew.cell? ⟨b, 1, none⟩ = some (.string n) ∧ z2.drew.cell? ⟨b, 2, none⟩ = some (.int .i64 (o)) ∧ z2.drew.cell? ⟨b, 3, none⟩ = some (.string v) ∧ z2.drew.cell? ⟨(b + 3), 0, none⟩ = some (.int .i64 k) ∧ z2.drew.cell? ⟨(b + 3), 1, none⟩ = some (.string n) ∧ z2.drew.cell? ⟨(b + 3), 2, none⟩ = some (.int .i64 (3 - o)) ∧ z2.drew.cell? ⟨(b + 3), 3, none⟩ = some (.string v) ∧ z2.drew.cell? ⟨(b + 2), 0, none⟩ = some (.int .i64 di) ∧ z2.drew.cell? ⟨(b + 2), 1, none⟩ = some (.int .i64 dp) ∧ z2.drew.cell? ⟨(b + 2), 2, none⟩ = some (.string dn) ∧ z2.drew.cell? ⟨(b + 2), 3, none⟩ = some (.string dor) ∧ z2.drew.cell? ⟨(b + 2), 4, none⟩ = some (.string ds) ∧ z2.drew.cell? ⟨(b + 2), 5, none⟩ = some (.string dd) ∧ z2.drew.cell? ⟨(b + 2), 6, none⟩ = some (.string da) ∧ z2.drew.cell? ⟨(b + 2), 7, none⟩ = some (.int .i64 dk) ∧ z2.drew.cell? ⟨(b + 2), 8, none⟩ = some (.int .i64 du) ∧ z2.drew.cell? ⟨(b + 2), 9, none⟩ = some (.slice daa dan dac) := ⟨Below.drew hz2, t0, t1, t2, t3, u0, u1, u2, u3, v0, v1, v2, v3, v4, v5, v6, v7, v8, v9⟩
        have hk : Hid (∀ y, Below w4.heap.size w4 y → Below w4.heap.size w4 y ∧ y.cell? ⟨b, 0, none⟩ = some (.int .i64 k) ∧ y.cell? ⟨b, 1, none⟩ = some (.string n) ∧ y.cell? ⟨b, 2, none⟩ = some (.int .i64 (o)) ∧ y.cell? ⟨b, 3, none⟩ = some (.string v) ∧ y.cell? ⟨(b + 3), 0, none⟩ = some (.int .i64 k) ∧ y.cell? ⟨(b + 3), 1, none⟩ = some (.string n) ∧ y.cell? ⟨(b + 3), 2, none⟩ = some (.int .i64 (3 - o)) ∧ y.cell? ⟨(b + 3), 3, none⟩ = some (.string v) ∧ y.cell? ⟨(b + 2), 0, none⟩ = some (.int .i64 di) ∧ y.cell? ⟨(b + 2), 1, none⟩ = some (.int .i64 dp) ∧ y.cell? ⟨(b + 2), 2, none⟩ = some (.string dn) ∧ y.cell? ⟨(b + 2), 3, none⟩ = some (.string dor) ∧ y.cell? ⟨(b + 2), 4, none⟩ = some (.string ds) ∧ y.cell? ⟨(b + 2), 5, none⟩ = some (.string dd) ∧ y.cell? ⟨(b + 2), 6, none⟩ = some (.string da) ∧ y.cell? ⟨(b + 2), 7, none⟩ = some (.int .i64 dk) ∧ y.cell? ⟨(b + 2), 8, none⟩ = some (.int .i64 du) ∧ y.cell? ⟨(b + 2), 9, none⟩ = some (.slice daa dan dac)) := fun y h => by
          have et := ht.out.below h ht.out.lt
          have eu := hu.out.below h hu.out.lt
          have ev := hv.out.below h hv.out.lt
          exact ⟨h, (et.cell 0).trans rfl, (et.cell 1).trans rfl, (et.cell 2).trans rfl, (et.cell 3).trans rfl, (eu.cell 0).trans rfl, (eu.cell 1).trans rfl, (eu.cell 2).trans rfl, (eu.cell 3).trans rfl, (ev.cell 0).trans rfl, (ev.cell 1).trans rfl, (ev.cell 2).trans rfl, (ev.cell 3).trans rfl, (ev.cell 4).trans rfl, (ev.cell 5).trans rfl, (ev.cell 6).trans rfl, (ev.cell 7).trans rfl, (ev.cell 8).trans rfl, (ev.cell 9).trans rfl⟩
        (first | (go_must (go_region_held3 (fun w' => Below w4.heap.size w4 w' ∧ w'.cell? ⟨b, 0, none⟩ = some (.int .i64 k) ∧ w'.cell? ⟨b, 1, none⟩ = some (.string n) ∧ w'.cell? ⟨b, 2, none⟩ = some (.int .i64 (o)) ∧ w'.cell? ⟨b, 3, none⟩ = some (.string v) ∧ w'.cell? ⟨(b + 3), 0, none⟩ = some (.int .i64 k) ∧ w'.cell? ⟨(b + 3), 1, none⟩ = some (.string n) ∧ w'.cell? ⟨(b + 3), 2, none⟩ = some (.int .i64 (3 - o)) ∧ w'.cell? ⟨(b + 3), 3, none⟩ = some (.string v) ∧ w'.cell? ⟨(b + 2), 0, none⟩ = some (.int .i64 di) ∧ w'.cell? ⟨(b + 2), 1, none⟩ = some (.int .i64 dp) ∧ w'.cell? ⟨(b + 2), 2, none⟩ = some (.string dn) ∧ w'.cell? ⟨(b + 2), 3, none⟩ = some (.string dor) ∧ w'.cell? ⟨(b + 2), 4, none⟩ = some (.string ds) ∧ w'.cell? ⟨(b + 2), 5, none⟩ = some (.string dd) ∧ w'.cell? ⟨(b + 2), 6, none⟩ = some (.string da) ∧ w'.cell? ⟨(b + 2), 7, none⟩ = some (.int .i64 dk) ∧ w'.cell? ⟨(b + 2), 8, none⟩ = some (.int .i64 du) ∧ w'.cell? ⟨(b + 2), 9, none⟩ = some (.slice daa dan dac))
          ((first | exact hS0 | exact hS1 | exact hk.out _ hy1 | exact hk.out _ hy2 | exact hk.out _ hy3))
          (first | (go_at_call 14; first | (refine (hDe2.out _ hy1).mono ?_; rintro e y2 ⟨rfl, hy2⟩) | (refine (hDe1.out _ hS1.1).mono ?_; rintro e y1 ⟨rfl, hy1⟩)) | (go_at_call 8; refine (hKn.out _ hy2).mono ?_; rintro e y3 ⟨rfl, hy3⟩) | fail))) | fail)
        have hfin := Lib.hid (hB4.out.trans (hy3.mono hB4.out.size))
        clear hy1 hy2 hy3 hk hS0 hS1 t0 t1 t2 t3 u0 u1 u2 u3 v0 v1 v2 v3 v4 v5 v6 v7 v8 v9
        go_wp2_with fail
        go_ret
        exact ⟨rfl, hfin.out⟩
    | false =>
      obtain rfl : D1 = false := hdn.out rfl
      have t0 := (ht.out.below hz2 ht.out.lt).cell 0
      have t1 := (ht.out.below hz2 ht.out.lt).cell 1
      have t2 := (ht.out.below hz2 ht.out.lt).cell 2
      have t3 := (ht.out.below hz2 ht.out.lt).cell 3
      simp only [List.getElem?_toArray, List.getElem?_cons_zero, List.getElem?_cons_succ] at t0 t1 t2 t3
      by_cases hkk : k = 1 ∨ k = 6 ∨ k = 7 ∨ k = 13
      · have hkh := Lib.hid hkk
        rcases hkk with rfl | rfl | rfl | rfl
        · have hkk := hkh.out; clear hkh t0 t1 t2 t3
          have t0 := (ht.out.below hz2 ht.out.lt).cell 0
          have t1 := (ht.out.below hz2 ht.out.lt).cell 1
          have t2 := (ht.out.below hz2 ht.out.lt).cell 2
          have t3 := (ht.out.below hz2 ht.out.lt).cell 3
          simp only [List.getElem?_toArray, List.getElem?_cons_zero, List.getElem?_cons_succ] at t0 t1 t2 t3
          have e2 := hfv.out hkk
          clear hkk
          cases F1 with
          | true =>
            obtain rfl : F2 = false := e2
            go_upto_region 12 with fail
            have t0 := (ht.out.below hz2 ht.out.lt).cell 0
            have t1 := (ht.out.below hz2 ht.out.lt).cell 1
            have t2 := (ht.out.below hz2 ht.out.lt).cell 2
            have t3 := (ht.out.below hz2 ht.out.lt).cell 3
            simp only [List.getElem?_toArray, List.getElem?_cons_zero, List.getElem?_cons_succ] at t0 t1 t2 t3
            have u0 := (hu.out.below hz2 hu.out.lt).cell 0
            have u1 := (hu.out.below hz2 hu.out.lt).cell 1
            have u2 := (hu.out.below hz2 hu.out.lt).cell 2
            have u3 := (hu.out.below hz2 hu.out.lt).cell 3
            simp only [List.getElem?_toArray, List.getElem?_cons_zero, List.getElem?_cons_succ] at u0 u1 u2 u3
            have d0 := (hd.out.below hz2 hd.out.lt).cell 0
            have d1 := (hd.out.below hz2 hd.out.lt).cell 1
            have d2 := (hd.out.below hz2 hd.out.lt).cell 2
            have d3 := (hd.out.below hz2 hd.out.lt).cell 3
            have d4 := (hd.out.below hz2 hd.out.lt).cell 4
            have d5 := (hd.out.below hz2 hd.out.lt).cell 5
            have d6 := (hd.out.below hz2 hd.out.lt).cell 6
            have d7 := (hd.out.below hz2 hd.out.lt).cell 7
            have d8 := (hd.out.below hz2 hd.out.lt).cell 8
            have d9 := (hd.out.below hz2 hd.out.lt).cell 9
            have d10 := (hd.out.below hz2 hd.out.lt).cell 10
            have d11 := (hd.out.below hz2 hd.out.lt).cell 11
            have d12 := (hd.out.below hz2 hd.out.lt).cell 12
            have d13 := (hd.out.below hz2 hd.out.lt).cell 13
            simp only [List.getElem?_toArray, List.getElem?_cons_zero, List.getElem?_cons_succ] at d0 d1 d2 d3 d4 d5 d6 d7 d8 d9 d10 d11 d12 d13
            have hS0 : Below w4.heap.size w4 z2 ∧ z2.cell? ⟨b, 0, none⟩ = some (.int .i64 1) ∧ z2.cell? ⟨b, 1, none⟩ = some (.string n) ∧ z2.cell? ⟨b, 2, none⟩ = some (.int .i64 (o)) ∧ z2.cell? ⟨b, 3, none⟩ = some (.string v) ∧ z2.cell? ⟨(b + 3), 0, none⟩ = some (.int .i64 1) ∧ z2.cell? ⟨(b + 3), 1, none⟩ = some (.string n) ∧ z2.cell? ⟨(b + 3), 2, none⟩ = some (.int .i64 (3 - o)) ∧ z2.cell? ⟨(b + 3), 3, none⟩ = some (.string v) ∧ z2.cell? ⟨(b + 1), 0, none⟩ = some (.slice p1 n1 c1) ∧ z2.cell? ⟨(b + 1), 1, none⟩ = some (.slice p2 n2 c2) ∧ z2.cell? ⟨(b + 1), 2, none⟩ = some (.slice none 0 0) ∧ z2.cell? ⟨(b + 1), 3, none⟩ = some (.slice none 0 0) ∧ z2.cell? ⟨(b + 1), 4, none⟩ = some (.slice none 0 0) ∧ z2.cell? ⟨(b + 1), 5, none⟩ = some (.string ⟨#[]⟩) ∧ z2.cell? ⟨(b + 1), 6, none⟩ = some (.int .i64 0) ∧ z2.cell? ⟨(b + 1), 7, none⟩ = some (.string ⟨#[]⟩) ∧ z2.cell? ⟨(b + 1), 8, none⟩ = some (.string ⟨#[]⟩) ∧ z2.cell? ⟨(b + 1), 9, none⟩ = some (.int .i64 0) ∧ z2.cell? ⟨(b + 1), 10, none⟩ = some (.string rs) ∧ z2.cell? ⟨(b + 1), 11, none⟩ = some (.int .i64 0) ∧ z2.cell? ⟨(b + 1), 12, none⟩ = some (.int .i64 0) ∧ z2.cell? ⟨(b + 1), 13, none⟩ = some (.slice none 0 0) := ⟨hz2, t0, t1, t2, t3, u0, u1, u2, u3, d0, d1, d2, d3, d4, d5, d6, d7, d8, d9, d10, d11, d12, d13⟩
            have hS1 : Below w4.heap.size w4 z2.drew ∧ z2.drew.cell? ⟨b, 0, none⟩ = some (.int .i64 1) ∧ z2.drew.cell? ⟨b, 1, none⟩ = some (.string n) ∧ z2.drew.cell? ⟨b, 2, none⟩ = some (.int .i64 (o)) ∧ z2.drew.cell? ⟨b, 3, none⟩ = some (.string v) ∧ z2.drew.cell? ⟨(b + 3), 0, none⟩ = some (.int .i64 1) ∧ z2.drew.cell? ⟨(b + 3), 1, none⟩ = some (.string n) ∧ z2.drew.cell? ⟨(b + 3), 2, none⟩ = some (.int .i64 (3 - o)) ∧ z2.drew.cell? ⟨(b + 3), 3, none⟩ = some (.string v) ∧ z2.drew.cell? ⟨(b + 1), 0, none⟩ = some (.slice p1 n1 c1) ∧ z2.drew.cell? ⟨(b + 1), 1, none⟩ = some (.slice p2 n2 c2) ∧ z2.drew.cell? ⟨(b + 1), 2, none⟩ = some (.slice none 0 0) ∧ z2.drew.cell? ⟨(b + 1), 3, none⟩ = some (.slice none 0 0) ∧ z2.drew.cell? ⟨(b + 1), 4, none⟩ = some (.slice none 0 0) ∧ z2.drew.cell? ⟨(b + 1), 5, none⟩ = some (.string ⟨#[]⟩) ∧ z2.drew.cell? ⟨(b + 1), 6, none⟩ = some (.int .i64 0) ∧ z2.drew.cell? ⟨(b + 1), 7, none⟩ = some (.string ⟨#[]⟩) ∧ z2.drew.cell? ⟨(b + 1), 8, none⟩ = some (.string ⟨#[]⟩) ∧ z2.drew.cell? ⟨(b + 1), 9, none⟩ = some (.int .i64 0) ∧ z2.drew.cell? ⟨(b + 1), 10, none⟩ = some (.string rs) ∧ z2.drew.cell? ⟨(b + 1), 11, none⟩ = some (.int .i64 0) ∧ z2.drew.cell? ⟨(b + 1), 12, none⟩ = some (.int .i64 0) ∧ z2.drew.cell? ⟨(b + 1), 13, none⟩ = some (.slice none 0 0) := ⟨Below.drew hz2, t0, t1, t2, t3, u0, u1, u2, u3, d0, d1, d2, d3, d4, d5, d6, d7, d8, d9, d10, d11, d12, d13⟩
            have hk : Hid (∀ y, Below w4.heap.size w4 y → Below w4.heap.size w4 y ∧ y.cell? ⟨b, 0, none⟩ = some (.int .i64 1) ∧ y.cell? ⟨b, 1, none⟩ = some (.string n) ∧ y.cell? ⟨b, 2, none⟩ = some (.int .i64 (o)) ∧ y.cell? ⟨b, 3, none⟩ = some (.string v) ∧ y.cell? ⟨(b + 3), 0, none⟩ = some (.int .i64 1) ∧ y.cell? ⟨(b + 3), 1, none⟩ = some (.string n) ∧ y.cell? ⟨(b + 3), 2, none⟩ = some (.int .i64 (3 - o)) ∧ y.cell? ⟨(b + 3), 3, none⟩ = some (.string v) ∧ y.cell? ⟨(b + 1), 0, none⟩ = some (.slice p1 n1 c1) ∧ y.cell? ⟨(b + 1), 1, none⟩ = some (.slice p2 n2 c2) ∧ y.cell? ⟨(b + 1), 2, none⟩ = some (.slice none 0 0) ∧ y.cell? ⟨(b + 1), 3, none⟩ = some (.slice none 0 0) ∧ y.cell? ⟨(b + 1), 4, none⟩ = some (.slice none 0 0) ∧ y.cell? ⟨(b + 1), 5, none⟩ = some (.string ⟨#[]⟩) ∧ y.cell? ⟨(b + 1), 6, none⟩ = some (.int .i64 0) ∧ y.cell? ⟨(b + 1), 7, none⟩ = some (.string ⟨#[]⟩) ∧ y.cell? ⟨(b + 1), 8, none⟩ = some (.string ⟨#[]⟩) ∧ y.cell? ⟨(b + 1), 9, none⟩ = some (.int .i64 0) ∧ y.cell? ⟨(b + 1), 10, none⟩ = some (.string rs) ∧ y.cell? ⟨(b + 1), 11, none⟩ = some (.int .i64 0) ∧ y.cell? ⟨(b + 1), 12, none⟩ = some (.int .i64 0) ∧ y.cell? ⟨(b + 1), 13, none⟩ = some (.slice none 0 0)) := fun y h => by
              have et := ht.out.below h ht.out.lt
              have eu := hu.out.below h hu.out.lt
              have ed := hd.out.below h hd.out.lt
              exact ⟨h, (et.cell 0).trans rfl, (et.cell 1).trans rfl, (et.cell 2).trans rfl, (et.cell 3).trans rfl, (eu.cell 0).trans rfl, (eu.cell 1).trans rfl, (eu.cell 2).trans rfl, (eu.cell 3).trans rfl, (ed.cell 0).trans rfl, (ed.cell 1).trans rfl, (ed.cell 2).trans rfl, (ed.cell 3).trans rfl, (ed.cell 4).trans rfl, (ed.cell 5).trans rfl, (ed.cell 6).trans rfl, (ed.cell 7).trans rfl, (ed.cell 8).trans rfl, (ed.cell 9).trans rfl, (ed.cell 10).trans rfl, (ed.cell 11).trans rfl, (ed.cell 12).trans rfl, (ed.cell 13).trans rfl⟩
            (first | (go_must (go_region_held3 (fun w' => Below w4.heap.size w4 w' ∧ w'.cell? ⟨b, 0, none⟩ = some (.int .i64 1) ∧ w'.cell? ⟨b, 1, none⟩ = some (.string n) ∧ w'.cell? ⟨b, 2, none⟩ = some (.int .i64 (o)) ∧ w'.cell? ⟨b, 3, none⟩ = some (.string v) ∧ w'.cell? ⟨(b + 3), 0, none⟩ = some (.int .i64 1) ∧ w'.cell? ⟨(b + 3), 1, none⟩ = some (.string n) ∧ w'.cell? ⟨(b + 3), 2, none⟩ = some (.int .i64 (3 - o)) ∧ w'.cell? ⟨(b + 3), 3, none⟩ = some (.string v) ∧ w'.cell? ⟨(b + 1), 0, none⟩ = some (.slice p1 n1 c1) ∧ w'.cell? ⟨(b + 1), 1, none⟩ = some (.slice p2 n2 c2) ∧ w'.cell? ⟨(b + 1), 2, none⟩ = some (.slice none 0 0) ∧ w'.cell? ⟨(b + 1), 3, none⟩ = some (.slice none 0 0) ∧ w'.cell? ⟨(b + 1), 4, none⟩ = some (.slice none 0 0) ∧ w'.cell? ⟨(b + 1), 5, none⟩ = some (.string ⟨#[]⟩) ∧ w'.cell? ⟨(b + 1), 6, none⟩ = some (.int .i64 0) ∧ w'.cell? ⟨(b + 1), 7, none⟩ = some (.string ⟨#[]⟩) ∧ w'.cell? ⟨(b + 1), 8, none⟩ = some (.string ⟨#[]⟩) ∧ w'.cell? ⟨(b + 1), 9, none⟩ = some (.int .i64 0) ∧ w'.cell? ⟨(b + 1), 10, none⟩ = some (.string rs) ∧ w'.cell? ⟨(b + 1), 11, none⟩ = some (.int .i64 0) ∧ w'.cell? ⟨(b + 1), 12, none⟩ = some (.int .i64 0) ∧ w'.cell? ⟨(b + 1), 13, none⟩ = some (.slice none 0 0))
              ((first | exact hS0 | exact hS1 | exact hk.out _ hy1 | exact hk.out _ hy2 | exact hk.out _ hy3))
              (first | (go_at_call 11; first | (refine (hDr2.out _ hy1).mono ?_; rintro e y2 ⟨rfl, hy2⟩) | (refine (hDr1.out _ hS1.1).mono ?_; rintro e y1 ⟨rfl, hy1⟩)) | (go_at_call 8; refine (hKn.out _ hy2).mono ?_; rintro e y3 ⟨rfl, hy3⟩) | fail))) | fail)
            have hfin := Lib.hid (hB4.out.trans (hy3.mono hB4.out.size))
            clear hy1 hy2 hy3 hk hS0 hS1 t0 t1 t2 t3 u0 u1 u2 u3 d0 d1 d2 d3 d4 d5 d6 d7 d8 d9 d10 d11 d12 d13
            go_wp2_with fail
            go_ret
            exact ⟨rfl, hfin.out⟩
          | false =>
            obtain rfl : F2 = true := e2
            go_upto_region 12 with fail
            have t0 := (ht.out.below hz2 ht.out.lt).cell 0
            have t1 := (ht.out.below hz2 ht.out.lt).cell 1
            have t2 := (ht.out.below hz2 ht.out.lt).cell 2
            have t3 := (ht.out.below hz2 ht.out.lt).cell 3
            simp only [List.getElem?_toArray, List.getElem?_cons_zero, List.getElem?_cons_succ] at t0 t1 t2 t3
            have u0 := (hu.out.below hz2 hu.out.lt).cell 0
            have u1 := (hu.out.below hz2 hu.out.lt).cell 1
            have u2 := (hu.out.below hz2 hu.out.lt).cell 2
            have u3 := (hu.out.below hz2 hu.out.lt).cell 3
            simp only [List.getElem?_toArray, List.getElem?_cons_zero, List.getElem?_cons_succ] at u0 u1 u2 u3
            have d0 := (hd.out.below hz2 hd.out.lt).cell 0
            have d1 := (hd.out.below hz2 hd.out.lt).cell 1
            have d2 := (hd.out.below hz2 hd.out.lt).cell 2
            have d3 := (hd.out.below hz2 hd.out.lt).cell 3
            have d4 := (hd.out.below hz2 hd.out.lt).cell 4
            have d5 := (hd.out.below hz2 hd.out.lt).cell 5
            have d6 := (hd.out.below hz2 hd.out.lt).cell 6
            have d7 := (hd.out.below hz2 hd.out.lt).cell 7
            have d8 := (hd.out.below hz2 hd.out.lt).cell 8
            have d9 := (hd.out.below hz2 hd.out.lt).cell 9
            have d10 := (hd.out.below hz2 hd.out.lt).cell 10
            have d11 := (hd.out.below hz2 hd.out.lt).cell 11
            have d12 := (hd.out.below hz2 hd.out.lt).cell 12
            have d13 := (hd.out.below hz2 hd.out.lt).cell 13
            simp only [List.getElem?_toArray, List.getElem?_cons_zero, List.getElem?_cons_succ] at d0 d1 d2 d3 d4 d5 d6 d7 d8 d9 d10 d11 d12 d13
            have hS0 : Below w4.heap.size w4 z2 ∧ z2.cell? ⟨b, 0, none⟩ = some (.int .i64 1) ∧ z2.cell? ⟨b, 1, none⟩ = some (.string n) ∧ z2.cell? ⟨b, 2, none⟩ = some (.int .i64 (o)) ∧ z2.cell? ⟨b, 3, none⟩ = some (.string v) ∧ z2.cell? ⟨(b + 3), 0, none⟩ = some (.int .i64 1) ∧ z2.cell? ⟨(b + 3), 1, none⟩ = some (.string n) ∧ z2.cell? ⟨(b + 3), 2, none⟩ = some (.int .i64 (3 - o)) ∧ z2.cell? ⟨(b + 3), 3, none⟩ = some (.string v) ∧ z2.cell? ⟨(b + 1), 0, none⟩ = some (.slice p1 n1 c1) ∧ z2.cell? ⟨(b + 1), 1, none⟩ = some (.slice p2 n2 c2) ∧ z2.cell? ⟨(b + 1), 2, none⟩ = some (.slice none 0 0) ∧ z2.cell? ⟨(b + 1), 3, none⟩ = some (.slice none 0 0) ∧ z2.cell? ⟨(b + 1), 4, none⟩ = some (.slice none 0 0) ∧ z2.cell? ⟨(b + 1), 5, none⟩ = some (.string ⟨#[]⟩) ∧ z2.cell? ⟨(b + 1), 6, none⟩ = some (.int .i64 0) ∧ z2.cell? ⟨(b + 1), 7, none⟩ = some (.string ⟨#[]⟩) ∧ z2.cell? ⟨(b + 1), 8, none⟩ = some (.string ⟨#[]⟩) ∧ z2.cell? ⟨(b + 1), 9, none⟩ = some (.int .i64 0) ∧ z2.cell? ⟨(b + 1), 10, none⟩ = some (.string rs) ∧ z2.cell? ⟨(b + 1), 11, none⟩ = some (.int .i64 0) ∧ z2.cell? ⟨(b + 1), 12, none⟩ = some (.int .i64 0) ∧ z2.cell? ⟨(b + 1), 13, none⟩ = some (.slice none 0 0) := ⟨hz2, t0, t1, t2, t3, u0, u1, u2, u3, d0, d1, d2, d3, d4, d5, d6, d7, d8, d9, d10, d11, d12, d13⟩
            have hS1 : Below w4.heap.size w4 z2.drew ∧ z2.drew.cell? ⟨b, 0, none⟩ = some (.int .i64 1) ∧ z2.drew.cell? ⟨b, 1, none⟩ = some (.string n) ∧ z2.drew.cell? ⟨b, 2, none⟩ = some (.int .i64 (o)) ∧ z2.drew.cell? ⟨b, 3, none⟩ = some (.string v) ∧ z2.drew.cell? ⟨(b + 3), 0, none⟩ = some (.int .i64 1) ∧ z2.drew.cell? ⟨(b + 3), 1, none⟩ = some (.string n) ∧ z2.drew.cell? ⟨(b + 3), 2, none⟩ = some (.int .i64 (3 - o)) ∧ z2.drew.cell? ⟨(b + 3), 3, none⟩ = some (.string v) ∧ z2.drew.cell? ⟨(b + 1), 0, none⟩ = some (.slice p1 n1 c1) ∧ z2.drew.cell? ⟨(b + 1), 1, none⟩ = some (.slice p2 n2 c2) ∧ z2.drew.cell? ⟨(b + 1), 2, none⟩ = some (.slice none 0 0) ∧ z2.drew.cell? ⟨(b + 1), 3, none⟩ = some (.slice none 0 0) ∧ z2.drew.cell? ⟨(b + 1), 4, none⟩ = some (.slice none 0 0) ∧ z2.drew.cell? ⟨(b + 1), 5, none⟩ = some (.string ⟨#[]⟩) ∧ z2.drew.cell? ⟨(b + 1), 6, none⟩ = some (.int .i64 0) ∧ z2.drew.cell? ⟨(b + 1), 7, none⟩ = some (.string ⟨#[]⟩) ∧ z2.drew.cell? ⟨(b + 1), 8, none⟩ = some (.string ⟨#[]⟩) ∧ z2.drew.cell? ⟨(b + 1), 9, none⟩ = some (.int .i64 0) ∧ z2.drew.cell? ⟨(b + 1), 10, none⟩ = some (.string rs) ∧ z2.drew.cell? ⟨(b + 1), 11, none⟩ = some (.int .i64 0) ∧ z2.drew.cell? ⟨(b + 1), 12, none⟩ = some (.int .i64 0) ∧ z2.drew.cell? ⟨(b + 1), 13, none⟩ = some (.slice none 0 0) := ⟨Below.drew hz2, t0, t1, t2, t3, u0, u1, u2, u3, d0, d1, d2, d3, d4, d5, d6, d7, d8, d9, d10, d11, d12, d13⟩
            have hk : Hid (∀ y, Below w4.heap.size w4 y → Below w4.heap.size w4 y ∧ y.cell? ⟨b, 0, none⟩ = some (.int .i64 1) ∧ y.cell? ⟨b, 1, none⟩ = some (.string n) ∧ y.cell? ⟨b, 2, none⟩ = some (.int .i64 (o)) ∧ y.cell? ⟨b, 3, none⟩ = some (.string v) ∧ y.cell? ⟨(b + 3), 0, none⟩ = some (.int .i64 1) ∧ y.cell? ⟨(b + 3), 1, none⟩ = some (.string n) ∧ y.cell? ⟨(b + 3), 2, none⟩ = some (.int .i64 (3 - o)) ∧ y.cell? ⟨(b + 3), 3, none⟩ = some (.string v) ∧ y.cell? ⟨(b + 1), 0, none⟩ = some (.slice p1 n1 c1) ∧ y.cell? ⟨(b + 1), 1, none⟩ = some (.slice p2 n2 c2) ∧ y.cell? ⟨(b + 1), 2, none⟩ = some (.slice none 0 0) ∧ y.cell? ⟨(b + 1), 3, none⟩ = some (.slice none 0 0) ∧ y.cell? ⟨(b + 1), 4, none⟩ = some (.slice none 0 0) ∧ y.cell? ⟨(b + 1), 5, none⟩ = some (.string ⟨#[]⟩) ∧ y.cell? ⟨(b + 1), 6, none⟩ = some (.int .i64 0) ∧ y.cell? ⟨(b + 1), 7, none⟩ = some (.string ⟨#[]⟩) ∧ y.cell? ⟨(b + 1), 8, none⟩ = some (.string ⟨#[]⟩) ∧ y.cell? ⟨(b + 1), 9, none⟩ = some (.int .i64 0) ∧ y.cell? ⟨(b + 1), 10, none⟩ = some (.string rs) ∧ y.cell? ⟨(b + 1), 11, none⟩ = some (.int .i64 0) ∧ y.cell? ⟨(b + 1), 12, none⟩ = some (.int .i64 0) ∧ y.cell? ⟨(b + 1), 13, none⟩ = some (.slice none 0 0)) := fun y h => by
              have et := ht.out.below h ht.out.lt
              have eu := hu.out.below h hu.out.lt
              have ed := hd.out.below h hd.out.lt
              exact ⟨h, (et.cell 0).trans rfl, (et.cell 1).trans rfl, (et.cell 2).trans rfl, (et.cell 3).trans rfl, (eu.cell 0).trans rfl, (eu.cell 1).trans rfl, (eu.cell 2).trans rfl, (eu.cell 3).trans rfl, (ed.cell 0).trans rfl, (ed.cell 1).trans rfl, (ed.cell 2).trans rfl, (ed.cell 3).trans rfl, (ed.cell 4).trans rfl, (ed.cell 5).trans rfl, (ed.cell 6).trans rfl, (ed.cell 7).trans rfl, (ed.cell 8).trans rfl, (ed.cell 9).trans rfl, (ed.cell 10).trans rfl, (ed.cell 11).trans rfl, (ed.cell 12).trans rfl, (ed.cell 13).trans rfl⟩
            (first | (go_must (go_region_held3 (fun w' => Below w4.heap.size w4 w' ∧ w'.cell? ⟨b, 0, none⟩ = some (.int .i64 1) ∧ w'.cell? ⟨b, 1, none⟩ = some (.string n) ∧ w'.cell? ⟨b, 2, none⟩ = some (.int .i64 (o)) ∧ w'.cell? ⟨b, 3, none⟩ = some (.string v) ∧ w'.cell? ⟨(b + 3), 0, none⟩ = some (.int .i64 1) ∧ w'.cell? ⟨(b + 3), 1, none⟩ = some (.string n) ∧ w'.cell? ⟨(b + 3), 2, none⟩ = some (.int .i64 (3 - o)) ∧ w'.cell? ⟨(b + 3), 3, none⟩ = some (.string v) ∧ w'.cell? ⟨(b + 1), 0, none⟩ = some (.slice p1 n1 c1) ∧ w'.cell? ⟨(b + 1), 1, none⟩ = some (.slice p2 n2 c2) ∧ w'.cell? ⟨(b + 1), 2, none⟩ = some (.slice none 0 0) ∧ w'.cell? ⟨(b + 1), 3, none⟩ = some (.slice none 0 0) ∧ w'.cell? ⟨(b + 1), 4, none⟩ = some (.slice none 0 0) ∧ w'.cell? ⟨(b + 1), 5, none⟩ = some (.string ⟨#[]⟩) ∧ w'.cell? ⟨(b + 1), 6, none⟩ = some (.int .i64 0) ∧ w'.cell? ⟨(b + 1), 7, none⟩ = some (.string ⟨#[]⟩) ∧ w'.cell? ⟨(b + 1), 8, none⟩ = some (.string ⟨#[]⟩) ∧ w'.cell? ⟨(b + 1), 9, none⟩ = some (.int .i64 0) ∧ w'.cell? ⟨(b + 1), 10, none⟩ = some (.string rs) ∧ w'.cell? ⟨(b + 1), 11, none⟩ = some (.int .i64 0) ∧ w'.cell? ⟨(b + 1), 12, none⟩ = some (.int .i64 0) ∧ w'.cell? ⟨(b + 1), 13, none⟩ = some (.slice none 0 0))
              ((first | exact hS0 | exact hS1 | exact hk.out _ hy1 | exact hk.out _ hy2 | exact hk.out _ hy3))
              (first | (go_at_call 11; first | (refine (hDr2.out _ hy1).mono ?_; rintro e y2 ⟨rfl, hy2⟩) | (refine (hDr1.out _ hS1.1).mono ?_; rintro e y1 ⟨rfl, hy1⟩)) | (go_at_call 8; refine (hKn.out _ hy2).mono ?_; rintro e y3 ⟨rfl, hy3⟩) | fail))) | fail)
            have hfin := Lib.hid (hB4.out.trans (hy3.mono hB4.out.size))
            clear hy1 hy2 hy3 hk hS0 hS1 t0 t1 t2 t3 u0 u1 u2 u3 d0 d1 d2 d3 d4 d5 d6 d7 d8 d9 d10 d11 d12 d13
            go_wp2_with fail
            go_ret
            exact ⟨rfl, hfin.out⟩
        · have hkk := hkh.out; clear hkh t0 t1 t2 t3
          have t0 := (ht.out.below hz2 ht.out.lt).cell 0
          have t1 := (ht.out.below hz2 ht.out.lt).cell 1
          have t2 := (ht.out.below hz2 ht.out.lt).cell 2
          have t3 := (ht.out.below hz2 ht.out.lt).cell 3
          simp only [List.getElem?_toArray, List.getElem?_cons_zero, List.getElem?_cons_succ] at t0 t1 t2 t3
          have e2 := hfv.out hkk
          clear hkk
          cases F1 with
          | true =>
            obtain rfl : F2 = false := e2
            go_upto_region 12 with fail
            have t0 := (ht.out.below hz2 ht.out.lt).cell 0
            have t1 := (ht.out.below hz2 ht.out.lt).cell 1
            have t2 := (ht.out.below hz2 ht.out.lt).cell 2
            have t3 := (ht.out.below hz2 ht.out.lt).cell 3
            simp only [List.getElem?_toArray, List.getElem?_cons_zero, List.getElem?_cons_succ] at t0 t1 t2 t3
            have u0 := (hu.out.below hz2 hu.out.lt).cell 0
            have u1 := (hu.out.below hz2 hu.out.lt).cell 1
            have u2 := (hu.out.below hz2 hu.out.lt).cell 2
            have u3 := (hu.out.below hz2 hu.out.lt).cell 3
            simp only [List.getElem?_toArray, List.getElem?_cons_zero, List.getElem?_cons_succ] at u0 u1 u2 u3
            have d0 := (hd.out.below hz2 hd.out.lt).cell 0
            have d1 := (hd.out.below hz2 hd.out.lt).cell 1
            have d2 := (hd.out.below hz2 hd.out.lt).cell 2
            have d3 := (hd.out.below hz2 hd.out.lt).cell 3
            have d4 := (hd.out.below hz2 hd.out.lt).cell 4
            have d5 := (hd.out.below hz2 hd.out.lt).cell 5
            have d6 := (hd.out.below hz2 hd.out.lt).cell 6
            have d7 := (hd.out.below hz2 hd.out.lt).cell 7
            have d8 := (hd.out.below hz2 hd.out.lt).cell 8
            have d9 := (hd.out.below hz2 hd.out.lt).cell 9
            have d10 := (hd.out.below hz2 hd.out.lt).cell 10
            have d11 := (hd.out.below hz2 hd.out.lt).cell 11
            have d12 := (hd.out.below hz2 hd.out.lt).cell 12
            have d13 := (hd.out.below hz2 hd.out.lt).cell 13
            simp only [List.getElem?_toArray, List.getElem?_cons_zero, List.getElem?_cons_succ] at d0 d1 d2 d3 d4 d5 d6 d7 d8 d9 d10 d11 d12 d13
            have hS0 : Below w4.heap.size w4 z2 ∧ z2.cell? ⟨b, 0, none⟩ = some (.int .i64 6) ∧ z2.cell? ⟨b, 1, none⟩ = some (.string n) ∧ z2.cell? ⟨b, 2, none⟩ = some (.int .i64 (o)) ∧ z2.cell? ⟨b, 3, none⟩ = some (.string v) ∧ z2.cell? ⟨(b + 3), 0, none⟩ = some (.int .i64 6) ∧ z2.cell? ⟨(b + 3), 1, none⟩ = some (.string n) ∧ z2.cell? ⟨(b + 3), 2, none⟩ = some (.int .i64 (3 - o)) ∧ z2.cell? ⟨(b + 3), 3, none⟩ = some (.string v) ∧ z2.cell? ⟨(b + 1), 0, none⟩ = some (.slice p1 n1 c1) ∧ z2.cell? ⟨(b + 1), 1, none⟩ = some (.slice p2 n2 c2) ∧ z2.cell? ⟨(b + 1), 2, none⟩ = some (.slice none 0 0) ∧ z2.cell? ⟨(b + 1), 3, none⟩ = some (.slice none 0 0) ∧ z2.cell? ⟨(b + 1), 4, none⟩ = some (.slice none 0 0) ∧ z2.cell? ⟨(b + 1), 5, none⟩ = some (.string ⟨#[]⟩) ∧ z2.cell? ⟨(b + 1), 6, none⟩ = some (.int .i64 0) ∧ z2.cell? ⟨(b + 1), 7, none⟩ = some (.string ⟨#[]⟩) ∧ z2.cell? ⟨(b + 1), 8, none⟩ = some (.string ⟨#[]⟩) ∧ z2.cell? ⟨(b + 1), 9, none⟩ = some (.int .i64 0) ∧ z2.cell? ⟨(b + 1), 10, none⟩ = some (.string rs) ∧ z2.cell? ⟨(b + 1), 11, none⟩ = some (.int .i64 0) ∧ z2.cell? ⟨(b + 1), 12, none⟩ = some (.int .i64 0) ∧ z2.cell? ⟨(b + 1), 13, none⟩ = some (.slice none 0 0) := ⟨hz2, t0, t1, t2, t3, u0, u1, u2, u3, d0, d1, d2, d3, d4, d5, d6, d7, d8, d9, d10, d11, d12, d13⟩
            have hS1 : Below w4.heap.size w4 z2.drew ∧ z2.drew.cell? ⟨b, 0, none⟩ = some (.int .i64 6) ∧ z2.drew.cell? ⟨b, 1, none⟩ = some (.string n) ∧ z2.drew.cell? ⟨b, 2, none⟩ = some (.int .i64 (o)) ∧ z2.drew.cell? ⟨b, 3, none⟩ = some (.string v) ∧ z2.drew.cell? ⟨(b + 3), 0, none⟩ = some (.int .i64 6) ∧ z2.drew.cell? ⟨(b + 3), 1, none⟩ = some (.string n) ∧ z2.drew.cell? ⟨(b + 3), 2, none⟩ = some (.int .i64 (3 - o)) ∧ z2.drew.cell? ⟨(b + 3), 3, none⟩ = some (.string v) ∧ z2.drew.cell? ⟨(b + 1), 0, none⟩ = some (.slice p1 n1 c1) ∧ z2.drew.cell? ⟨(b + 1), 1, none⟩ = some (.slice p2 n2 c2) ∧ z2.drew.cell? ⟨(b + 1), 2, none⟩ = some (.slice none 0 0) ∧ z2.drew.cell? ⟨(b + 1), 3, none⟩ = some (.slice none 0 0) ∧ z2.drew.cell? ⟨(b + 1), 4, none⟩ = some (.slice none 0 0) ∧ z2.drew.cell? ⟨(b + 1), 5, none⟩ = some (.string ⟨#[]⟩) ∧ z2.drew.cell? ⟨(b + 1), 6, none⟩ = some (.int .i64 0) ∧ z2.drew.cell? ⟨(b + 1), 7, none⟩ = some (.string ⟨#[]⟩) ∧ z2.drew.cell? ⟨(b + 1), 8, none⟩ = some (.string ⟨#[]⟩) ∧ z2.drew.cell? ⟨(b + 1), 9, none⟩ = some (.int .i64 0) ∧ z2.drew.cell? ⟨(b + 1), 10, none⟩ = some (.string rs) ∧ z2.drew.cell? ⟨(b + 1), 11, none⟩ = some (.int .i64 0) ∧ z2.drew.cell? ⟨(b + 1), 12, none⟩ = some (.int .i64 0) ∧ z2.drew.cell? ⟨(b + 1), 13, none⟩ = some (.slice none 0 0) := ⟨Below.drew hz2, t0, t1, t2, t3, u0, u1, u2, u3, d0, d1, d2, d3, d4, d5, d6, d7, d8, d9, d10, d11, d12, d13⟩
            have hk : Hid (∀ y, Below w4.heap.size w4 y → Below w4.heap.size w4 y ∧ y.cell? ⟨b, 0, none⟩ = some (.int .i64 6) ∧ y.cell? ⟨b, 1, none⟩ = some (.string n) ∧ y.cell? ⟨b, 2, none⟩ = some (.int .i64 (o)) ∧ y.cell? ⟨b, 3, none⟩ = some (.string v) ∧ y.cell? ⟨(b + 3), 0, none⟩ = some (.int .i64 6) ∧ y.cell? ⟨(b + 3), 1, none⟩ = some (.string n) ∧ y.cell? ⟨(b + 3), 2, none⟩ = some (.int .i64 (3 - o)) ∧ y.cell? ⟨(b + 3), 3, none⟩ = some (.string v) ∧ y.cell? ⟨(b + 1), 0, none⟩ = some (.slice p1 n1 c1) ∧ y.cell? ⟨(b + 1), 1, none⟩ = some (.slice p2 n2 c2) ∧ y.cell? ⟨(b + 1), 2, none⟩ = some (.slice none 0 0) ∧ y.cell? ⟨(b + 1), 3, none⟩ = some (.slice none 0 0) ∧ y.cell? ⟨(b + 1), 4, none⟩ = some (.slice none 0 0) ∧ y.cell? ⟨(b + 1), 5, none⟩ = some (.string ⟨#[]⟩) ∧ y.cell? ⟨(b + 1), 6, none⟩ = some (.int .i64 0) ∧ y.cell? ⟨(b + 1), 7, none⟩ = some (.string ⟨#[]⟩) ∧ y.cell? ⟨(b + 1), 8, none⟩ = some (.string ⟨#[]⟩) ∧ y.cell? ⟨(b + 1), 9, none⟩ = some (.int .i64 0) ∧ y.cell? ⟨(b + 1), 10, none⟩ = some (.string rs) ∧ y.cell? ⟨(b + 1), 11, none⟩ = some (.int .i64 0) ∧ y.cell? ⟨(b + 1), 12, none⟩ = some (.int .i64 0) ∧ y.cell? ⟨(b + 1), 13, none⟩ = some (.slice none 0 0)) := fun y h => by
              have et := ht.out.below h ht.out.lt
              have eu := hu.out.below h hu.out.lt
              have ed := hd.out.below h hd.out.lt
              exact ⟨h, (et.cell 0).trans rfl, (et.cell 1).trans rfl, (et.cell 2).trans rfl, (et.cell 3).trans rfl, (eu.cell 0).trans rfl, (eu.cell 1).trans rfl, (eu.cell 2).trans rfl, (eu.cell 3).trans rfl, (ed.cell 0).trans rfl, (ed.cell 1).trans rfl, (ed.cell 2).trans rfl, (ed.cell 3).trans rfl, (ed.cell 4).trans rfl, (ed.cell 5).trans rfl, (ed.cell 6).trans rfl, (ed.cell 7).trans rfl, (ed.cell 8).trans rfl, (ed.cell 9).trans rfl, (ed.cell 10).trans rfl, (ed.cell 11).trans rfl, (ed.cell 12).trans rfl, (ed.cell 13).trans rfl⟩
            (first | (go_must (go_region_held3 (fun w' => Below w4.heap.size w4 w' ∧ w'.cell? ⟨b, 0, none⟩ = some (.int .i64 6) ∧ w'.cell? ⟨b, 1, none⟩ = some (.string n) ∧ w'.cell? ⟨b, 2, none⟩ = some (.int .i64 (o)) ∧ w'.cell? ⟨b, 3, none⟩ = some (.string v) ∧ w'.cell? ⟨(b + 3), 0, none⟩ = some (.int .i64 6) ∧ w'.cell? ⟨(b + 3), 1, none⟩ = some (.string n) ∧ w'.cell? ⟨(b + 3), 2, none⟩ = some (.int .i64 (3 - o)) ∧ w'.cell? ⟨(b + 3), 3, none⟩ = some (.string v) ∧ w'.cell? ⟨(b + 1), 0, none⟩ = some (.slice p1 n1 c1) ∧ w'.cell? ⟨(b + 1), 1, none⟩ = some (.slice p2 n2 c2) ∧ w'.cell? ⟨(b + 1), 2, none⟩ = some (.slice none 0 0) ∧ w'.cell? ⟨(b + 1), 3, none⟩ = some (.slice none 0 0) ∧ w'.cell? ⟨(b + 1), 4, none⟩ = some (.slice none 0 0) ∧ w'.cell? ⟨(b + 1), 5, none⟩ = some (.string ⟨#[]⟩) ∧ w'.cell? ⟨(b + 1), 6, none⟩ = some (.int .i64 0) ∧ w'.cell? ⟨(b + 1), 7, none⟩ = some (.string ⟨#[]⟩) ∧ w'.cell? ⟨(b + 1), 8, none⟩ = some (.string ⟨#[]⟩) ∧ w'.cell? ⟨(b + 1), 9, none⟩ = some (.int .i64 0) ∧ w'.cell? ⟨(b + 1), 10, none⟩ = some (.string rs) ∧ w'.cell? ⟨(b + 1), 11, none⟩ = some (.int .i64 0) ∧ w'.cell? ⟨(b + 1), 12, none⟩ = some (.int .i64 0) ∧ w'.cell? ⟨(b + 1), 13, none⟩ = some (.slice none 0 0))
              ((first | exact hS0 | exact hS1 | exact hk.out _ hy1 | exact hk.out _ hy2 | exact hk.out _ hy3))
              (first | (go_at_call 11; first | (refine (hDr2.out _ hy1).mono ?_; rintro e y2 ⟨rfl, hy2⟩) | (refine (hDr1.out _ hS1.1).mono ?_; rintro e y1 ⟨rfl, hy1⟩)) | (go_at_call 8; refine (hKn.out _ hy2).mono ?_; rintro e y3 ⟨rfl, hy3⟩) | fail))) | fail)
            have hfin := Lib.hid (hB4.out.trans (hy3.mono hB4.out.size))
            clear hy1 hy2 hy3 hk hS0 hS1 t0 t1 t2 t3 u0 u1 u2 u3 d0 d1 d2 d3 d4 d5 d6 d7 d8 d9 d10 d11 d12 d13
            go_wp2_with fail
            go_ret
            exact ⟨rfl, hfin.out⟩
          | false =>
            obtain rfl : F2 = true := e2
            go_upto_region 12 with fail
            have t0 := (ht.out.below hz2 ht.out.lt).cell 0
            have t1 := (ht.out.below hz2 ht.out.lt).cell 1
            have t2 := (ht.out.below hz2 ht.out.lt).cell 2
            have t3 := (ht.out.below hz2 ht.out.lt).cell 3
            simp only [List.getElem?_toArray, List.getElem?_cons_zero, List.getElem?_cons_succ] at t0 t1 t2 t3
            have u0 := (hu.out.below hz2 hu.out.lt).cell 0
            have u1 := (hu.out.below hz2 hu.out.lt).cell 1
            have u2 := (hu.out.below hz2 hu.out.lt).cell 2
            have u3 := (hu.out.below hz2 hu.out.lt).cell 3
            simp only [List.getElem?_toArray, List.getElem?_cons_zero, List.getElem?_cons_succ] at u0 u1 u2 u3
            have d0 := (hd.out.below hz2 hd.out.lt).cell 0
            have d1 := (hd.out.below hz2 hd.out.lt).cell 1
            have d2 := (hd.out.below hz2 hd.out.lt).cell 2
            have d3 := (hd.out.below hz2 hd.out.lt).cell 3
            have d4 := (hd.out.below hz2 hd.out.lt).cell 4
            have d5 := (hd.out.below hz2 hd.out.lt).cell 5
            have d6 := (hd.out.below hz2 hd.out.lt).cell 6
            have d7 := (hd.out.below hz2 hd.out.lt).cell 7
            have d8 := (hd.out.below hz2 hd.out.lt).cell 8
            have d9 := (hd.out.below hz2 hd.out.lt).cell 9
            have d10 := (hd.out.below hz2 hd.out.lt).cell 10
            have d11 := (hd.out.below hz2 hd.out.lt).cell 11
            have d12 := (hd.out.below hz2 hd.out.lt).cell 12
            have d13 := (hd.out.below hz2 hd.out.lt).cell 13
            simp only [List.getElem?_toArray, List.getElem?_cons_zero, List.getElem?_cons_succ] at d0 d1 d2 d3 d4 d5 d6 d7 d8 d9 d10 d11 d12 d13
            have hS0 : Below w4.heap.size w4 z2 ∧ z2.cell? ⟨b, 0, none⟩ = some (.int .i64 6) ∧ z2.cell? ⟨b, 1, none⟩ = some (.string n) ∧ z2.cell? ⟨b, 2, none⟩ = some (.int .i64 (o)) ∧ z2.cell? ⟨b, 3, none⟩ = some (.string v) ∧ z2.cell? ⟨(b + 3), 0, none⟩ = some (.int .i64 6) ∧ z2.cell? ⟨(b + 3), 1, none⟩ = some (.string n) ∧ z2.cell? ⟨(b + 3), 2, none⟩ = some (.int .i64 (3 - o)) ∧ z2.cell? ⟨(b + 3), 3, none⟩ = some (.string v) ∧ z2.cell? ⟨(b + 1), 0, none⟩ = some (.slice p1 n1 c1) ∧ z2.cell? ⟨(b + 1), 1, none⟩ = some (.slice p2 n2 c2) ∧ z2.cell? ⟨(b + 1), 2, none⟩ = some (.slice none 0 0) ∧ z2.cell? ⟨(b + 1), 3, none⟩ = some (.slice none 0 0) ∧ z2.cell? ⟨(b + 1), 4, none⟩ = some (.slice none 0 0) ∧ z2.cell? ⟨(b + 1), 5, none⟩ = some (.string ⟨#[]⟩) ∧ z2.cell? ⟨(b + 1), 6, none⟩ = some (.int .i64 0) ∧ z2.cell? ⟨(b + 1), 7, none⟩ = some (.string ⟨#[]⟩) ∧ z2.cell? ⟨(b + 1), 8, none⟩ = some (.string ⟨#[]⟩) ∧ z2.cell? ⟨(b + 1), 9, none⟩ = some (.int .i64 0) ∧ z2.cell? ⟨(b + 1), 10, none⟩ = some (.string rs) ∧ z2.cell? ⟨(b + 1), 11, none⟩ = some (.int .i64 0) ∧ z2.cell? ⟨(b + 1), 12, none⟩ = some (.int .i64 0) ∧ z2.cell? ⟨(b + 1), 13, none⟩ = some (.slice none 0 0) := ⟨hz2, t0, t1, t2, t3, u0, u1, u2, u3, d0, d1, d2, d3, d4, d5, d6, d7, d8, d9, d10, d11, d12, d13⟩
            have hS1 : Below w4.heap.size w4 z2.drew ∧ z2.drew.cell? ⟨b, 0, none⟩ = some (.int .i64 6) ∧ z2.drew.cell? ⟨b, 1, none⟩ = some (.string n) ∧ z2.drew.cell? ⟨b, 2, none⟩ = some (.int .i64 (o)) ∧ z2.drew.cell? ⟨b, 3, none⟩ = some (.string v) ∧ z2.drew.cell? ⟨(b + 3), 0, none⟩ = some (.int .i64 6) ∧ z2.drew.cell? ⟨(b + 3), 1, none⟩ = some (.string n) ∧ z2.drew.cell? ⟨(b + 3), 2, none⟩ = some (.int .i64 (3 - o)) ∧ z2.drew.cell? ⟨(b + 3), 3, none⟩ = some (.string v) ∧ z2.drew.cell? ⟨(b + 1), 0, none⟩ = some (.slice p1 n1 c1) ∧ z2.drew.cell? ⟨(b + 1), 1, none⟩ = some (.slice p2 n2 c2) ∧ z2.drew.cell? ⟨(b + 1), 2, none⟩ = some (.slice none 0 0) ∧ z2.drew.cell? ⟨(b + 1), 3, none⟩ = some (.slice none 0 0) ∧ z2.drew.cell? ⟨(b + 1), 4, none⟩ = some (.slice none 0 0) ∧ z2.drew.cell? ⟨(b + 1), 5, none⟩ = some (.string ⟨#[]⟩) ∧ z2.drew.cell? ⟨(b + 1), 6, none⟩ = some (.int .i64 0) ∧ z2.drew.cell? ⟨(b + 1), 7, none⟩ = some (.string ⟨#[]⟩) ∧ z2.drew.cell? ⟨(b + 1), 8, none⟩ = some (.string ⟨#[]⟩) ∧ z2.drew.cell? ⟨(b + 1), 9, none⟩ = some (.int .i64 0) ∧ z2.drew.cell? ⟨(b + 1), 10, none⟩ = some (.string rs) ∧ z2.drew.cell? ⟨(b + 1), 11, none⟩ = some (.int .i64 0) ∧ z2.drew.cell? ⟨(b + 1), 12, none⟩ = some (.int .i64 0) ∧ z2.drew.cell? ⟨(b + 1), 13, none⟩ = some (.slice none 0 0) := ⟨Below.drew hz2, t0, t1, t2, t3, u0, u1, u2, u3, d0, d1, d2, d3, d4, d5, d6, d7, d8, d9, d10, d11, d12, d13⟩
            have hk : Hid (∀ y, Below w4.heap.size w4 y → Below w4.heap.size w4 y ∧ y.cell? ⟨b, 0, none⟩ = some (.int .i64 6) ∧ y.cell? ⟨b, 1, none⟩ = some (.string n) ∧ y.cell? ⟨b, 2, none⟩ = some (.int .i64 (o)) ∧ y.cell? ⟨b, 3, none⟩ = some (.string v) ∧ y.cell? ⟨(b + 3), 0, none⟩ = some (.int .i64 6) ∧ y.cell? ⟨(b + 3), 1, none⟩ = some (.string n) ∧ y.cell? ⟨(b + 3), 2, none⟩ = some (.int .i64 (3 - o)) ∧ y.cell? ⟨(b + 3), 3, none⟩ = some (.string v) ∧ y.cell? ⟨(b + 1), 0, none⟩ = some (.slice p1 n1 c1) ∧ y.cell? ⟨(b + 1), 1, none⟩ = some (.slice p2 n2 c2) ∧ y.cell? ⟨(b + 1), 2, none⟩ = some (.slice none 0 0) ∧ y.cell? ⟨(b + 1), 3, none⟩ = some (.slice none 0 0) ∧ y.cell? ⟨(b + 1), 4, none⟩ = some (.slice none 0 0) ∧ y.cell? ⟨(b + 1), 5, none⟩ = some (.string ⟨#[]⟩) ∧ y.cell? ⟨(b + 1), 6, none⟩ = some (.int .i64 0) ∧ y.cell? ⟨(b + 1), 7, none⟩ = some (.string ⟨#[]⟩) ∧ y.cell? ⟨(b + 1), 8, none⟩ = some (.string ⟨#[]⟩) ∧ y.cell? ⟨(b + 1), 9, none⟩ = some (.int .i64 0) ∧ y.cell? ⟨(b + 1), 10, none⟩ = some (.string rs) ∧ y.cell? ⟨(b + 1), 11, none⟩ = some (.int .i64 0) ∧ y.cell? ⟨(b + 1), 12, none⟩ = some (.int .i64 0) ∧ y.cell? ⟨(b + 1), 13, none⟩ = some (.slice none 0 0)) := fun y h => by
              have et := ht.out.below h ht.out.lt
              have eu := hu.out.below h hu.out.lt
              have ed := hd.out.below h hd.out.lt
              exact ⟨h, (et.cell 0).trans rfl, (et.cell 1).trans rfl, (et.cell 2).trans rfl, (et.cell 3).trans rfl, (eu.cell 0).trans rfl, (eu.cell 1).trans rfl, (eu.cell 2).trans rfl, (eu.cell 3).trans rfl, (ed.cell 0).trans rfl, (ed.cell 1).trans rfl, (ed.cell 2).trans rfl, (ed.cell 3).trans rfl, (ed.cell 4).trans rfl, (ed.cell 5).trans rfl, (ed.cell 6).trans rfl, (ed.cell 7).trans rfl, (ed.cell 8).trans rfl, (ed.cell 9).trans rfl, (ed.cell 10).trans rfl, (ed.cell 11).trans rfl, (ed.cell 12).trans rfl, (ed.cell 13).trans rfl⟩
            (first | (go_must (go_region_held3 (fun w' => Below w4.heap.size w4 w' ∧ w'.cell? ⟨b, 0, none⟩ = some (.int .i64 6) ∧ w'.cell? ⟨b, 1, none⟩ = some (.string n) ∧ w'.cell? ⟨b, 2, none⟩ = some (.int .i64 (o)) ∧ w'.cell? ⟨b, 3, none⟩ = some (.string v) ∧ w'.cell? ⟨(b + 3), 0, none⟩ = some (.int .i64 6) ∧ w'.cell? ⟨(b + 3), 1, none⟩ = some (.string n) ∧ w'.cell? ⟨(b + 3), 2, none⟩ = some (.int .i64 (3 - o)) ∧ w'.cell? ⟨(b + 3), 3, none⟩ = some (.string v) ∧ w'.cell? ⟨(b + 1), 0, none⟩ = some (.slice p1 n1 c1) ∧ w'.cell? ⟨(b + 1), 1, none⟩ = some (.slice p2 n2 c2) ∧ w'.cell? ⟨(b + 1), 2, none⟩ = some (.slice none 0 0) ∧ w'.cell? ⟨(b + 1), 3, none⟩ = some (.slice none 0 0) ∧ w'.cell? ⟨(b + 1), 4, none⟩ = some (.slice none 0 0) ∧ w'.cell? ⟨(b + 1), 5, none⟩ = some (.string ⟨#[]⟩) ∧ w'.cell? ⟨(b + 1), 6, none⟩ = some (.int .i64 0) ∧ w'.cell? ⟨(b + 1), 7, none⟩ = some (.string ⟨#[]⟩) ∧ w'.cell? ⟨(b + 1), 8, none⟩ = some (.string ⟨#[]⟩) ∧ w'.cell? ⟨(b + 1), 9, none⟩ = some (.int .i64 0) ∧ w'.cell? ⟨(b + 1), 10, none⟩ = some (.string rs) ∧ w'.cell? ⟨(b + 1), 11, none⟩ = some (.int .i64 0) ∧ w'.cell? ⟨(b + 1), 12, none⟩ = some (.int .i64 0) ∧ w'.cell? ⟨(b + 1), 13, none⟩ = some (.slice none 0 0))
              ((first | exact hS0 | exact hS1 | exact hk.out _ hy1 | exact hk.out _ hy2 | exact hk.out _ hy3))
              (first | (go_at_call 11; first | (refine (hDr2.out _ hy1).mono ?_; rintro e y2 ⟨rfl, hy2⟩) | (refine (hDr1.out _ hS1.1).mono ?_; rintro e y1 ⟨rfl, hy1⟩)) | (go_at_call 8; refine (hKn.out _ hy2).mono ?_; rintro e y3 ⟨rfl, hy3⟩) | fail))) | fail)
            have hfin := Lib.hid (hB4.out.trans (hy3.mono hB4.out.size))
            clear hy1 hy2 hy3 hk hS0 hS1 t0 t1 t2 t3 u0 u1 u2 u3 d0 d1 d2 d3 d4 d5 d6 d7 d8 d9 d10 d11 d12 d13
            go_wp2_with fail
            go_ret
            exact ⟨rfl, hfin.out⟩
        · have hkk := hkh.out; clear hkh t0 t1 t2 t3
          have t0 := (ht.out.below hz2 ht.out.lt).cell 0
          have t1 := (ht.out.below hz2 ht.out.lt).cell 1
          have t2 := (ht.out.below hz2 ht.out.lt).cell 2
          have t3 := (ht.out.below hz2 ht.out.lt).cell 3
          simp only [List.getElem?_toArray, List.getElem?_cons_zero, List.getElem?_cons_succ] at t0 t1 t2 t3
          have e2 := hfv.out hkk
          clear hkk
          cases F1 with
          | true =>
            obtain rfl : F2 = false := e2
            go_upto_region 12 with fail
            have t0 := (ht.out.below hz2 ht.out.lt).cell 0
            have t1 := (ht.out.below hz2 ht.out.lt).cell 1
            have t2 := (ht.out.below hz2 ht.out.lt).cell 2
            have t3 := (ht.out.below hz2 ht.out.lt).cell 3
            simp only [List.getElem?_toArray, List.getElem?_cons_zero, List.getElem?_cons_succ] at t0 t1 t2 t3
            have u0 := (hu.out.below hz2 hu.out.lt).cell 0
            have u1 := (hu.out.below hz2 hu.out.lt).cell 1
            have u2 := (hu.out.below hz2 hu.out.lt).cell 2
            have u3 := (hu.out.below hz2 hu.out.lt).cell 3
            simp only [List.getElem?_toArray, List.getElem?_cons_zero, List.getElem?_cons_succ] at u0 u1 u2 u3
            have d0 := (hd.out.below hz2 hd.out.lt).cell 0
            have d1 := (hd.out.below hz2 hd.out.lt).cell 1
            have d2 := (hd.out.below hz2 hd.out.lt).cell 2
            have d3 := (hd.out.below hz2 hd.out.lt).cell 3
            have d4 := (hd.out.below hz2 hd.out.lt).cell 4
            have d5 := (hd.out.below hz2 hd.out.lt).cell 5
            have d6 := (hd.out.below hz2 hd.out.lt).cell 6
            have d7 := (hd.out.below hz2 hd.out.lt).cell 7
            have d8 := (hd.out.below hz2 hd.out.lt).cell 8
            have d9 := (hd.out.below hz2 hd.out.lt).cell 9
            have d10 := (hd.out.below hz2 hd.out.lt).cell 10
            have d11 := (hd.out.below hz2 hd.out.lt).cell 11
            have d12 := (hd.out.below hz2 hd.out.lt).cell 12
            have d13 := (hd.out.below hz2 hd.out.lt).cell 13
            simp only [List.getElem?_toArray, List.getElem?_cons_zero, List.getElem?_cons_succ] at d0 d1 d2 d3 d4 d5 d6 d7 d8 d9 d10 d11 d12 d13
            have hS0 : Below w4.heap.size w4 z2 ∧ z2.cell? ⟨b, 0, none⟩ = some (.int .i64 7) ∧ z2.cell? ⟨b, 1, none⟩ = some (.string n) ∧ z2.cell? ⟨b, 2, none⟩ = some (.int .i64 (o)) ∧ z2.cell? ⟨b, 3, none⟩ = some (.string v) ∧ z2.cell? ⟨(b + 3), 0, none⟩ = some (.int .i64 7) ∧ z2.cell? ⟨(b + 3), 1, none⟩ = some (.string n) ∧ z2.cell? ⟨(b + 3), 2, none⟩ = some (.int .i64 (3 - o)) ∧ z2.cell? ⟨(b + 3), 3, none⟩ = some (.string v) ∧ z2.cell? ⟨(b + 1), 0, none⟩ = some (.slice p1 n1 c1) ∧ z2.cell? ⟨(b + 1), 1, none⟩ = some (.slice p2 n2 c2) ∧ z2.cell? ⟨(b + 1), 2, none⟩ = some (.slice none 0 0) ∧ z2.cell? ⟨(b + 1), 3, none⟩ = some (.slice none 0 0) ∧ z2.cell? ⟨(b + 1), 4, none⟩ = some (.slice none 0 0) ∧ z2.cell? ⟨(b + 1), 5, none⟩ = some (.string ⟨#[]⟩) ∧ z2.cell? ⟨(b + 1), 6, none⟩ = some (.int .i64 0) ∧ z2.cell? ⟨(b + 1), 7, none⟩ = some (.string ⟨#[]⟩) ∧ z2.cell? ⟨(b + 1), 8, none⟩ = some (.string ⟨#[]⟩) ∧ z2.cell? ⟨(b + 1), 9, none⟩ = some (.int .i64 0) ∧ z2.cell? ⟨(b + 1), 10, none⟩ = some (.string rs) ∧ z2.cell? ⟨(b + 1), 11, none⟩ = some (.int .i64 0) ∧ z2.cell? ⟨(b + 1), 12, none⟩ = some (.int .i64 0) ∧ z2.cell? ⟨(b + 1), 13, none⟩ = some (.slice none 0 0) := ⟨hz2, t0, t1, t2, t3, u0, u1, u2, u3, d0, d1, d2, d3, d4, d5, d6, d7, d8, d9, d10, d11, d12, d13⟩
            have hS1 : Below w4.heap.size w4 z2.drew ∧ z2.drew.cell? ⟨b, 0, none⟩ = some (.int .i64 7) ∧ z2.drew.cell? ⟨b, 1, none⟩ = some (.string n) ∧ z2.drew.cell? ⟨b, 2, none⟩ = some (.int .i64 (o)) ∧ z2.drew.cell? ⟨b, 3, none⟩ = some (.string v) ∧ z2.drew.cell? ⟨(b + 3), 0, none⟩ = some (.int .i64 7) ∧ z2.drew.cell? ⟨(b + 3), 1, none⟩ = some (.string n) ∧ z2.drew.cell? ⟨(b + 3), 2, none⟩ = some (.int .i64 (3 - o)) ∧ z2.drew.cell? ⟨(b + 3), 3, none⟩ = some (.string v) ∧ z2.drew.cell? ⟨(b + 1), 0, none⟩ = some (.slice p1 n1 c1) ∧ z2.drew.cell? ⟨(b + 1), 1, none⟩ = some (.slice p2 n2 c2) ∧ z2.drew.cell? ⟨(b + 1), 2, none⟩ = some (.slice none 0 0) ∧ z2.drew.cell? ⟨(b + 1), 3, none⟩ = some (.slice none 0 0) ∧ z2.drew.cell? ⟨(b + 1), 4, none⟩ = some (.slice none 0 0) ∧ z2.drew.cell? ⟨(b + 1), 5, none⟩ = some (.string ⟨#[]⟩) ∧ z2.drew.cell? ⟨(b + 1), 6, none⟩ = some (.int .i64 0) ∧ z2.drew.cell? ⟨(b + 1), 7, none⟩ = some (.string ⟨#[]⟩) ∧ z2.drew.cell? ⟨(b + 1), 8, none⟩ = some (.string ⟨#[]⟩) ∧ z2.drew.cell? ⟨(b + 1), 9, none⟩ = some (.int .i64 0) ∧ z2.drew.cell? ⟨(b + 1), 10, none⟩ = some (.string rs) ∧ z2.drew.cell? ⟨(b + 1), 11, none⟩ = some (.int .i64 0) ∧ z2.drew.cell? ⟨(b + 1), 12, none⟩ = some (.int .i64 0) ∧ z2.drew.cell? ⟨(b + 1), 13, none⟩ = some (.slice none 0 0) := ⟨Below.drew hz2, t0, t1, t2, t3, u0, u1, u2, u3, d0, d1, d2, d3, d4, d5, d6, d7, d8, d9, d10, d11, d12, d13⟩
            have hk : Hid (∀ y, Below w4.heap.size w4 y → Below w4.heap.size w4 y ∧ y.cell? ⟨b, 0, none⟩ = some (.int .i64 7) ∧ y.cell? ⟨b, 1, none⟩ = some (.string n) ∧ y.cell? ⟨b, 2, none⟩ = some (.int .i64 (o)) ∧ y.cell? ⟨b, 3, none⟩ = some (.string v) ∧ y.cell? ⟨(b + 3), 0, none⟩ = some (.int .i64 7) ∧ y.cell? ⟨(b + 3), 1, none⟩ = some (.string n) ∧ y.cell? ⟨(b + 3), 2, none⟩ = some (.int .i64 (3 - o)) ∧ y.cell? ⟨(b + 3), 3, none⟩ = some (.string v) ∧ y.cell? ⟨(b + 1), 0, none⟩ = some (.slice p1 n1 c1) ∧ y.cell? ⟨(b + 1), 1, none⟩ = some (.slice p2 n2 c2) ∧ y.cell? ⟨(b + 1), 2, none⟩ = some (.slice none 0 0) ∧ y.cell? ⟨(b + 1), 3, none⟩ = some (.slice none 0 0) ∧ y.cell? ⟨(b + 1), 4, none⟩ = some (.slice none 0 0) ∧ y.cell? ⟨(b + 1), 5, none⟩ = some (.string ⟨#[]⟩) ∧ y.cell? ⟨(b + 1), 6, none⟩ = some (.int .i64 0) ∧ y.cell? ⟨(b + 1), 7, none⟩ = some (.string ⟨#[]⟩) ∧ y.cell? ⟨(b + 1), 8, none⟩ = some (.string ⟨#[]⟩) ∧ y.cell? ⟨(b + 1), 9, none⟩ = some (.int .i64 0) ∧ y.cell? ⟨(b + 1), 10, none⟩ = some (.string rs) ∧ y.cell? ⟨(b + 1), 11, none⟩ = some (.int .i64 0) ∧ y.cell? ⟨(b + 1), 12, none⟩ = some (.int .i64 0) ∧ y.cell? ⟨(b + 1), 13, none⟩ = some (.slice none 0 0)) := fun y h => by
              have et := ht.out.below h ht.out.lt
              have eu := hu.out.below h hu.out.lt
              have ed := hd.out.below h hd.out.lt
              exact ⟨h, (et.cell 0).trans rfl, (et.cell 1).trans rfl, (et.cell 2).trans rfl, (et.cell 3).trans rfl, (eu.cell 0).trans rfl, (eu.cell 1).trans rfl, (eu.cell 2).trans rfl, (eu.cell 3).trans rfl, (ed.cell 0).trans rfl, (ed.cell 1).trans rfl, (ed.cell 2).trans rfl, (ed.cell 3).trans rfl, (ed.cell 4).trans rfl, (ed.cell 5).trans rfl, (ed.cell 6).trans rfl, (ed.cell 7).trans rfl, (ed.cell 8).trans rfl, (ed.cell 9).trans rfl, (ed.cell 10).trans rfl, (ed.cell 11).trans rfl, (ed.cell 12).trans rfl, (ed.cell 13).trans rfl⟩
            (first | (go_must (go_region_held3 (fun w' => Below w4.heap.size w4 w' ∧ w'.cell? ⟨b, 0, none⟩ = some (.int .i64 7) ∧ w'.cell? ⟨b, 1, none⟩ = some (.string n) ∧ w'.cell? ⟨b, 2, none⟩ = some (.int .i64 (o)) ∧ w'.cell? ⟨b, 3, none⟩ = some (.string v) ∧ w'.cell? ⟨(b + 3), 0, none⟩ = some (.int .i64 7) ∧ w'.cell? ⟨(b + 3), 1, none⟩ = some (.string n) ∧ w'.cell? ⟨(b + 3), 2, none⟩ = some (.int .i64 (3 - o)) ∧ w'.cell? ⟨(b + 3), 3, none⟩ = some (.string v) ∧ w'.cell? ⟨(b + 1), 0, none⟩ = some (.slice p1 n1 c1) ∧ w'.cell? ⟨(b + 1), 1, none⟩ = some (.slice p2 n2 c2) ∧ w'.cell? ⟨(b + 1), 2, none⟩ = some (.slice none 0 0) ∧ w'.cell? ⟨(b + 1), 3, none⟩ = some (.slice none 0 0) ∧ w'.cell? ⟨(b + 1), 4, none⟩ = some (.slice none 0 0) ∧ w'.cell? ⟨(b + 1), 5, none⟩ = some (.string ⟨#[]⟩) ∧ w'.cell? ⟨(b + 1), 6, none⟩ = some (.int .i64 0) ∧ w'.cell? ⟨(b + 1), 7, none⟩ = some (.string ⟨#[]⟩) ∧ w'.cell? ⟨(b + 1), 8, none⟩ = some (.string ⟨#[]⟩) ∧ w'.cell? ⟨(b + 1), 9, none⟩ = some (.int .i64 0) ∧ w'.cell? ⟨(b + 1), 10, none⟩ = some (.string rs) ∧ w'.cell? ⟨(b + 1), 11, none⟩ = some (.int .i64 0) ∧ w'.cell? ⟨(b + 1), 12, none⟩ = some (.int .i64 0) ∧ w'.cell? ⟨(b + 1), 13, none⟩ = some (.slice none 0 0))
              ((first | exact hS0 | exact hS1 | exact hk.out _ hy1 | exact hk.out _ hy2 | exact hk.out _ hy3))
              (first | (go_at_call 11; first | (refine (hDr2.out _ hy1).mono ?_; rintro e y2 ⟨rfl, hy2⟩) | (refine (hDr1.out _ hS1.1).mono ?_; rintro e y1 ⟨rfl, hy1⟩)) | (go_at_call 8; refine (hKn.out _ hy2).mono ?_; rintro e y3 ⟨rfl, hy3⟩) | fail))) | fail)
            have hfin := Lib.hid (hB4.out.trans (hy3.mono hB4.out.size))
            clear hy1 hy2 hy3 hk hS0 hS1 t0 t1 t2 t3 u0 u1 u2 u3 d0 d1 d2 d3 d4 d5 d6 d7 d8 d9 d10 d11 d12 d13
            go_wp2_with fail
            go_ret
            exact ⟨rfl, hfin.out⟩
          | false =>
            obtain rfl : F2 = true := e2
            go_upto_region 12 with fail
            have t0 := (ht.out.below hz2 ht.out.lt).cell 0
            have t1 := (ht.out.below hz2 ht.out.lt).cell 1
            have t2 := (ht.out.below hz2 ht.out.lt).cell 2
            have t3 := (ht.out.below hz2 ht.out.lt).cell 3
            simp only [List.getElem?_toArray, List.getElem?_cons_zero, List.getElem?_cons_succ] at t0 t1 t2 t3
            have u0 := (hu.out.below hz2 hu.out.lt).cell 0
            have u1 := (hu.out.below hz2 hu.out.lt).cell 1
            have u2 := (hu.out.below hz2 hu.out.lt).cell 2
            have u3 := (hu.out.below hz2 hu.out.lt).cell 3
            simp only [List.getElem?_toArray, List.getElem?_cons_zero, List.getElem?_cons_succ] at u0 u1 u2 u3
            have d0 := (hd.out.below hz2 hd.out.lt).cell 0
            have d1 := (hd.out.below hz2 hd.out.lt).cell 1
            have d2 := (hd.out.below hz2 hd.out.lt).cell 2
            have d3 := (hd.out.below hz2 hd.out.lt).cell 3
            have d4 := (hd.out.below hz2 hd.out.lt).cell 4
            have d5 := (hd.out.below hz2 hd.out.lt).cell 5
            have d6 := (hd.out.below hz2 hd.out.lt).cell 6
            have d7 := (hd.out.below hz2 hd.out.lt).cell 7
            have d8 := (hd.out.below hz2 hd.out.lt).cell 8
            have d9 := (hd.out.below hz2 hd.out.lt).cell 9
            have d10 := (hd.out.below hz2 hd.out.lt).cell 10
            have d11 := (hd.out.below hz2 hd.out.lt).cell 11
            have d12 := (hd.out.below hz2 hd.out.lt).cell 12
            have d13 := (hd.out.below hz2 hd.out.lt).cell 13
            simp only [List.getElem?_toArray, List.getElem?_cons_zero, List.getElem?_cons_succ] at d0 d1 d2 d3 d4 d5 d6 d7 d8 d9 d10 d11 d12 d13
            have hS0 : Below w4.heap.size w4 z2 ∧ z2.cell? ⟨b, 0, none⟩ = some (.int .i64 7) ∧ z2.cell? ⟨b, 1, none⟩ = some (.string n) ∧ z2.cell? ⟨b, 2, none⟩ = some (.int .i64 (o)) ∧ z2.cell? ⟨b, 3, none⟩ = some (.string v) ∧ z2.cell? ⟨(b + 3), 0, none⟩ = some (.int .i64 7) ∧ z2.cell? ⟨(b + 3), 1, none⟩ = some (.string n) ∧ z2.cell? ⟨(b + 3), 2, none⟩ = some (.int .i64 (3 - o)) ∧ z2.cell? ⟨(b + 3), 3, none⟩ = some (.string v) ∧ z2.cell? ⟨(b + 1), 0, none⟩ = some (.slice p1 n1 c1) ∧ z2.cell? ⟨(b + 1), 1, none⟩ = some (.slice p2 n2 c2) ∧ z2.cell? ⟨(b + 1), 2, none⟩ = some (.slice none 0 0) ∧ z2.cell? ⟨(b + 1), 3, none⟩ = some (.slice none 0 0) ∧ z2.cell? ⟨(b + 1), 4, none⟩ = some (.slice none 0 0) ∧ z2.cell? ⟨(b + 1), 5, none⟩ = some (.string ⟨#[]⟩) ∧ z2.cell? ⟨(b + 1), 6, none⟩ = some (.int .i64 0) ∧ z2.cell? ⟨(b + 1), 7, none⟩ = some (.string ⟨#[]⟩) ∧ z2.cell? ⟨(b + 1), 8, none⟩ = some (.string ⟨#[]⟩) ∧ z2.cell? ⟨(b + 1), 9, none⟩ = some (.int .i64 0) ∧ z2.cell? ⟨(b + 1), 10, none⟩ = some (.string rs) ∧ z2.cell? ⟨(b + 1), 11, none⟩ = some (.int .i64 0) ∧ z2.cell? ⟨(b + 1), 12, none⟩ = some (.int .i64 0) ∧ z2.cell? ⟨(b + 1), 13, none⟩ = some (.slice none 0 0) := ⟨hz2, t0, t1, t2, t3, u0, u1, u2, u3, d0, d1, d2, d3, d4, d5, d6, d7, d8, d9, d10, d11, d12, d13⟩
            have hS1 : Below w4.heap.size w4 z2.drew ∧ z2.drew.cell? ⟨b, 0, none⟩ = some (.int .i64 7) ∧ z2.drew.cell? ⟨b, 1, none⟩ = some (.string n) ∧ z2.drew.cell? ⟨b, 2, none⟩ = some (.int .i64 (o)) ∧ z2.drew.cell? ⟨b, 3, none⟩ = some (.string v) ∧ z2.drew.cell? ⟨(b + 3), 0, none⟩ = some (.int .i64 7) ∧ z2.drew.cell? ⟨(b + 3), 1, none⟩ = some (.string n) ∧ z2.drew.cell? ⟨(b + 3), 2, none⟩ = some (.int .i64 (3 - o)) ∧ z2.drew.cell? ⟨(b + 3), 3, none⟩ = some (.string v) ∧ z2.drew.cell? ⟨(b + 1), 0, none⟩ = some (.slice p1 n1 c1) ∧ z2.drew.cell? ⟨(b + 1), 1, none⟩ = some (.slice p2 n2 c2) ∧ z2.drew.cell? ⟨(b + 1), 2, none⟩ = some (.slice none 0 0) ∧ z2.drew.cell? ⟨(b + 1), 3, none⟩ = some (.slice none 0 0) ∧ z2.drew.cell? ⟨(b + 1), 4, none⟩ = some (.slice none 0 0) ∧ z2.drew.cell? ⟨(b + 1), 5, none⟩ = some (.string ⟨#[]⟩) ∧ z2.drew.cell? ⟨(b + 1), 6, none⟩ = some (.int .i64 0) ∧ z2.drew.cell? ⟨(b + 1), 7, none⟩ = some (.string ⟨#[]⟩) ∧ z2.drew.cell? ⟨(b + 1), 8, none⟩ = some (.string ⟨#[]⟩) ∧ z2.drew.cell? ⟨(b + 1), 9, none⟩ = some (.int .i64 0) ∧ z2.drew.cell? ⟨(b + 1), 10, none⟩ = some (.string rs) ∧ z2.drew.cell? ⟨(b + 1), 11, none⟩ = some (.int .i64 0) ∧ z2.drew.cell? ⟨(b + 1), 12, none⟩ = some (.int .i64 0) ∧ z2.drew.cell? ⟨(b + 1), 13, none⟩ = some (.slice none 0 0) := ⟨Below.drew hz2, t0, t1, t2, t3, u0, u1, u2, u3, d0, d1, d2, d3, d4, d5, d6, d7, d8, d9, d10, d11, d12, d13⟩
            have hk : Hid (∀ y, Below w4.heap.size w4 y → Below w4.heap.size w4 y ∧ y.cell? ⟨b, 0, none⟩ = some (.int .i64 7) ∧ y.cell? ⟨b, 1, none⟩ = some (.string n) ∧ y.cell? ⟨b, 2, none⟩ = some (.int .i64 (o)) ∧ y.cell? ⟨b, 3, none⟩ = some (.string v) ∧ y.cell? ⟨(b + 3), 0, none⟩ = some (.int .i64 7) ∧ y.cell? ⟨(b + 3), 1, none⟩ = some (.string n) ∧ y.cell? ⟨(b + 3), 2, none⟩ = some (.int .i64 (3 - o)) ∧ y.cell? ⟨(b + 3), 3, none⟩ = some (.string v) ∧ y.cell? ⟨(b + 1), 0, none⟩ = some (.slice p1 n1 c1) ∧ y.cell? ⟨(b + 1), 1, none⟩ = some (.slice p2 n2 c2) ∧ y.cell? ⟨(b + 1), 2, none⟩ = some (.slice none 0 0) ∧ y.cell? ⟨(b + 1), 3, none⟩ = some (.slice none 0 0) ∧ y.cell? ⟨(b + 1), 4, none⟩ = some (.slice none 0 0) ∧ y.cell? ⟨(b + 1), 5, none⟩ = some (.string ⟨#[]⟩) ∧ y.cell? ⟨(b + 1), 6, none⟩ = some (.int .i64 0) ∧ y.cell? ⟨(b + 1), 7, none⟩ = some (.string ⟨#[]⟩) ∧ y.cell? ⟨(b + 1), 8, none⟩ = some (.string ⟨#[]⟩) ∧ y.cell? ⟨(b + 1), 9, none⟩ = some (.int .i64 0) ∧ y.cell? ⟨(b + 1), 10, none⟩ = some (.string rs) ∧ y.cell? ⟨(b + 1), 11, none⟩ = some (.int .i64 0) ∧ y.cell? ⟨(b + 1), 12, none⟩ = some (.int .i64 0) ∧ y.cell? ⟨(b + 1), 13, none⟩ = some (.slice none 0 0)) := fun y h => by
              have et := ht.out.below h ht.out.lt
              have eu := hu.out.below h hu.out.lt
              have ed := hd.out.below h hd.out.lt
              exact ⟨h, (et.cell 0).trans rfl, (et.cell 1).trans rfl, (et.cell 2).trans rfl, (et.cell 3).trans rfl, (eu.cell 0).trans rfl, (eu.cell 1).trans rfl, (eu.cell 2).trans rfl, (eu.cell 3).trans rfl, (ed.cell 0).trans rfl, (ed.cell 1).trans rfl, (ed.cell 2).trans rfl, (ed.cell 3).trans rfl, (ed.cell 4).trans rfl, (ed.cell 5).trans rfl, (ed.cell 6).trans rfl, (ed.cell 7).trans rfl, (ed.cell 8).trans rfl, (ed.cell 9).trans rfl, (ed.cell 10).trans rfl, (ed.cell 11).trans rfl, (ed.cell 12).trans rfl, (ed.cell 13).trans rfl⟩
            (first | (go_must (go_region_held3 (fun w' => Below w4.heap.size w4 w' ∧ w'.cell? ⟨b, 0, none⟩ = some (.int .i64 7) ∧ w'.cell? ⟨b, 1, none⟩ = some (.string n) ∧ w'.cell? ⟨b, 2, none⟩ = some (.int .i64 (o)) ∧ w'.cell? ⟨b, 3, none⟩ = some (.string v) ∧ w'.cell? ⟨(b + 3), 0, none⟩ = some (.int .i64 7) ∧ w'.cell? ⟨(b + 3), 1, none⟩ = some (.string n) ∧ w'.cell? ⟨(b + 3), 2, none⟩ = some (.int .i64 (3 - o)) ∧ w'.cell? ⟨(b + 3), 3, none⟩ = some (.string v) ∧ w'.cell? ⟨(b + 1), 0, none⟩ = some (.slice p1 n1 c1) ∧ w'.cell? ⟨(b + 1), 1, none⟩ = some (.slice p2 n2 c2) ∧ w'.cell? ⟨(b + 1), 2, none⟩ = some (.slice none 0 0) ∧ w'.cell? ⟨(b + 1), 3, none⟩ = some (.slice none 0 0) ∧ w'.cell? ⟨(b + 1), 4, none⟩ = some (.slice none 0 0) ∧ w'.cell? ⟨(b + 1), 5, none⟩ = some (.string ⟨#[]⟩) ∧ w'.cell? ⟨(b + 1), 6, none⟩ = some (.int .i64 0) ∧ w'.cell? ⟨(b + 1), 7, none⟩ = some (.string ⟨#[]⟩) ∧ w'.cell? ⟨(b + 1), 8, none⟩ = some (.string ⟨#[]⟩) ∧ w'.cell? ⟨(b + 1), 9, none⟩ = some (.int .i64 0) ∧ w'.cell? ⟨(b + 1), 10, none⟩ = some (.string rs) ∧ w'.cell? ⟨(b + 1), 11, none⟩ = some (.int .i64 0) ∧ w'.cell? ⟨(b + 1), 12, none⟩ = some (.int .i64 0) ∧ w'.cell? ⟨(b + 1), 13, none⟩ = some (.slice none 0 0))
              ((first | exact hS0 | exact hS1 | exact hk.out _ hy1 | exact hk.out _ hy2 | exact hk.out _ hy3))
              (first | (go_at_call 11; first | (refine (hDr2.out _ hy1).mono ?_; rintro e y2 ⟨rfl, hy2⟩) | (refine (hDr1.out _ hS1.1).mono ?_; rintro e y1 ⟨rfl, hy1⟩)) | (go_at_call 8; refine (hKn.out _ hy2).mono ?_; rintro e y3 ⟨rfl, hy3⟩) | fail))) | fail)
            have hfin := Lib.hid (hB4.out.trans (hy3.mono hB4.out.size))
            clear hy1 hy2 hy3 hk hS0 hS1 t0 t1 t2 t3 u0 u1 u2 u3 d0 d1 d2 d3 d4 d5 d6 d7 d8 d9 d10 d11 d12 d13
            go_wp2_with fail
            go_ret
            exact ⟨rfl, hfin.out⟩
        · have hkk := hkh.out; clear hkh t0 t1 t2 t3
          have t0 := (ht.out.below hz2 ht.out.lt).cell 0
          have t1 := (ht.out.below hz2 ht.out.lt).cell 1
          have t2 := (ht.out.below hz2 ht.out.lt).cell 2
          have t3 := (ht.out.below hz2 ht.out.lt).cell 3
          simp only [List.getElem?_toArray, List.getElem?_cons_zero, List.getElem?_cons_succ] at t0 t1 t2 t3
          have e2 := hfv.out hkk
          clear hkk
          cases F1 with
          | true =>
            obtain rfl : F2 = false := e2
            go_upto_region 12 with fail
            have t0 := (ht.out.below hz2 ht.out.lt).cell 0
            have t1 := (ht.out.below hz2 ht.out.lt).cell 1
            have t2 := (ht.out.below hz2 ht.out.lt).cell 2
            have t3 := (ht.out.below hz2 ht.out.lt).cell 3
            simp only [List.getElem?_toArray, List.getElem?_cons_zero, List.getElem?_cons_succ] at t0 t1 t2 t3
            have u0 := (hu.out.below hz2 hu.out.lt).cell 0
            have u1 := (hu.out.below hz2 hu.out.lt).cell 1
            have u2 := (hu.out.below hz2 hu.out.lt).cell 2
            have u3 := (hu.out.below hz2 hu.out.lt).cell 3
            simp only [List.getElem?_toArray, List.getElem?_cons_zero, List.getElem?_cons_succ] at u0 u1 u2 u3
            have d0 := (hd.out.below hz2 hd.out.lt).cell 0
            have d1 := (hd.out.below hz2 hd.out.lt).cell 1
            have d2 := (hd.out.below hz2 hd.out.lt).cell 2
            have d3 := (hd.out.below hz2 hd.out.lt).cell 3
            have d4 := (hd.out.below hz2 hd.out.lt).cell 4
            have d5 := (hd.out.below hz2 hd.out.lt).cell 5
            have d6 := (hd.out.below hz2 hd.out.lt).cell 6
            have d7 := (hd.out.below hz2 hd.out.lt).cell 7
            have d8 := (hd.out.below hz2 hd.out.lt).cell 8
            have d9 := (hd.out.below hz2 hd.out.lt).cell 9
            have d10 := (hd.out.below hz2 hd.out.lt).cell 10
            have d11 := (hd.out.below hz2 hd.out.lt).cell 11
            have d12 := (hd.out.below hz2 hd.out.lt).cell 12
            have d13 := (hd.out.below hz2 hd.out.lt).cell 13
            simp only [List.getElem?_toArray, List.getElem?_cons_zero, List.getElem?_cons_succ] at d0 d1 d2 d3 d4 d5 d6 d7 d8 d9 d10 d11 d12 d13
            have hS0 : Below w4.heap.size w4 z2 ∧ z2.cell? ⟨b, 0, none⟩ = some (.int .i64 13) ∧ z2.cell? ⟨b, 1, none⟩ = some (.string n) ∧ z2.cell? ⟨b, 2, none⟩ = some (.int .i64 (o)) ∧ z2.cell? ⟨b, 3, none⟩ = some (.string v) ∧ z2.cell? ⟨(b + 3), 0, none⟩ = some (.int .i64 13) ∧ z2.cell? ⟨(b + 3), 1, none⟩ = some (.string n) ∧ z2.cell? ⟨(b + 3), 2, none⟩ = some (.int .i64 (3 - o)) ∧ z2.cell? ⟨(b + 3), 3, none⟩ = some (.string v) ∧ z2.cell? ⟨(b + 1), 0, none⟩ = some (.slice p1 n1 c1) ∧ z2.cell? ⟨(b + 1), 1, none⟩ = some (.slice p2 n2 c2) ∧ z2.cell? ⟨(b + 1), 2, none⟩ = some (.slice none 0 0) ∧ z2.cell? ⟨(b + 1), 3, none⟩ = some (.slice none 0 0) ∧ z2.cell? ⟨(b + 1), 4, none⟩ = some (.slice none 0 0) ∧ z2.cell? ⟨(b + 1), 5, none⟩ = some (.string ⟨#[]⟩) ∧ z2.cell? ⟨(b + 1), 6, none⟩ = some (.int .i64 0) ∧ z2.cell? ⟨(b + 1), 7, none⟩ = some (.string ⟨#[]⟩) ∧ z2.cell? ⟨(b + 1), 8, none⟩ = some (.string ⟨#[]⟩) ∧ z2.cell? ⟨(b + 1), 9, none⟩ = some (.int .i64 0) ∧ z2.cell? ⟨(b + 1), 10, none⟩ = some (.string rs) ∧ z2.cell? ⟨(b + 1), 11, none⟩ = some (.int .i64 0) ∧ z2.cell? ⟨(b + 1), 12, none⟩ = some (.int .i64 0) ∧ z2.cell? ⟨(b + 1), 13, none⟩ = some (.slice none 0 0) := ⟨hz2, t0, t1, t2, t3, u0, u1, u2, u3, d0, d1, d2, d3, d4, d5, d6, d7, d8, d9, d10, d11, d12, d13⟩
            have hS1 : Below w4.heap.size w4 z2.drew ∧ z2.drew.cell? ⟨b, 0, none⟩ = some (.int .i64 13) ∧ z2.drew.cell? ⟨b, 1, none⟩ = some (.string n) ∧ z2.drew.cell? ⟨b, 2, none⟩ = some (.int .i64 (o)) ∧ z2.drew.cell? ⟨b, 3, none⟩ = some (.string v) ∧ z2.drew.cell? ⟨(b + 3), 0, none⟩ = some (.int .i64 13) ∧ z2.drew.cell? ⟨(b + 3), 1, none⟩ = some (.string n) ∧ z2.drew.cell? ⟨(b + 3), 2, none⟩ = some (.int .i64 (3 - o)) ∧ z2.drew.cell? ⟨(b + 3), 3, none⟩ = some (.string v) ∧ z2.drew.cell? ⟨(b + 1), 0, none⟩ = some (.slice p1 n1 c1) ∧ z2.drew.cell? ⟨(b + 1), 1, none⟩ = some (.slice p2 n2 c2) ∧ z2.drew.cell? ⟨(b + 1), 2, none⟩ = some (.slice none 0 0) ∧ z2.drew.cell? ⟨(b + 1), 3, none⟩ = some (.slice none 0 0) ∧ z2.drew.cell? ⟨(b + 1), 4, none⟩ = some (.slice none 0 0) ∧ z2.drew.cell? ⟨(b + 1), 5, none⟩ = some (.string ⟨#[]⟩) ∧ z2.drew.cell? ⟨(b + 1), 6, none⟩ = some (.int .i64 0) ∧ z2.drew.cell? ⟨(b + 1), 7, none⟩ = some (.string ⟨#[]⟩) ∧ z2.drew.cell? ⟨(b + 1), 8, none⟩ = some (.string ⟨#[]⟩) ∧ z2.drew.cell? ⟨(b + 1), 9, none⟩ = some (.int .i64 0) ∧ z2.drew.cell? ⟨(b + 1), 10, none⟩ = some (.string rs) ∧ z2.drew.cell? ⟨(b + 1), 11, none⟩ = some (.int .i64 0) ∧ z2.drew.cell? ⟨(b + 1), 12, none⟩ = some (.int .i64 0) ∧ z2.drew.cell? ⟨(b + 1), 13, none⟩ = some (.slice none 0 0) := ⟨Below.drew hz2, t0, t1, t2, t3, u0, u1, u2, u3, d0, d1, d2, d3, d4, d5, d6, d7, d8, d9, d10, d11, d12, d13⟩
            have hk : Hid (∀ y, Below w4.heap.size w4 y → Below w4.heap.size w4 y ∧ y.cell? ⟨b, 0, none⟩ = some (.int .i64 13) ∧ y.cell? ⟨b, 1, none⟩ = some (.string n) ∧ y.cell? ⟨b, 2, none⟩ = some (.int .i64 (o)) ∧ y.cell? ⟨b, 3, none⟩ = some (.string v) ∧ y.cell? ⟨(b + 3), 0, none⟩ = some (.int .i64 13) ∧ y.cell? ⟨(b + 3), 1, none⟩ = some (.string n) ∧ y.cell? ⟨(b + 3), 2, none⟩ = some (.int .i64 (3 - o)) ∧ y.cell? ⟨(b + 3), 3, none⟩ = some (.string v) ∧ y.cell? ⟨(b + 1), 0, none⟩ = some (.slice p1 n1 c1) ∧ y.cell? ⟨(b + 1), 1, none⟩ = some (.slice p2 n2 c2) ∧ y.cell? ⟨(b + 1), 2, none⟩ = some (.slice none 0 0) ∧ y.cell? ⟨(b + 1), 3, none⟩ = some (.slice none 0 0) ∧ y.cell? ⟨(b + 1), 4, none⟩ = some (.slice none 0 0) ∧ y.cell? ⟨(b + 1), 5, none⟩ = some (.string ⟨#[]⟩) ∧ y.cell? ⟨(b + 1), 6, none⟩ = some (.int .i64 0) ∧ y.cell? ⟨(b + 1), 7, none⟩ = some (.string ⟨#[]⟩) ∧ y.cell? ⟨(b + 1), 8, none⟩ = some (.string ⟨#[]⟩) ∧ y.cell? ⟨(b + 1), 9, none⟩ = some (.int .i64 0) ∧ y.cell? ⟨(b + 1), 10, none⟩ = some (.string rs) ∧ y.cell? ⟨(b + 1), 11, none⟩ = some (.int .i64 0) ∧ y.cell? ⟨(b + 1), 12, none⟩ = some (.int .i64 0) ∧ y.cell? ⟨(b + 1), 13, none⟩ = some (.slice none 0 0)) := fun y h => by
              have et := ht.out.below h ht.out.lt
              have eu := hu.out.below h hu.out.lt
              have ed := hd.out.below h hd.out.lt
              exact ⟨h, (et.cell 0).trans rfl, (et.cell 1).trans rfl, (et.cell 2).trans rfl, (et.cell 3).trans rfl, (eu.cell 0).trans rfl, (eu.cell 1).trans rfl, (eu.cell 2).trans rfl, (eu.cell 3).trans rfl, (ed.cell 0).trans rfl, (ed.cell 1).trans rfl, (ed.cell 2).trans rfl, (ed.cell 3).trans rfl, (ed.cell 4).trans rfl, (ed.cell 5).trans rfl, (ed.cell 6).trans rfl, (ed.cell 7).trans rfl, (ed.cell 8).trans rfl, (ed.cell 9).trans rfl, (ed.cell 10).trans rfl, (ed.cell 11).trans rfl, (ed.cell 12).trans rfl, (ed.cell 13).trans rfl⟩
            (first | (go_must (go_region_held3 (fun w' => Below w4.heap.size w4 w' ∧ w'.cell? ⟨b, 0, none⟩ = some (.int .i64 13) ∧ w'.cell? ⟨b, 1, none⟩ = some (.string n) ∧ w'.cell? ⟨b, 2, none⟩ = some (.int .i64 (o)) ∧ w'.cell? ⟨b, 3, none⟩ = some (.string v) ∧ w'.cell? ⟨(b + 3), 0, none⟩ = some (.int .i64 13) ∧ w'.cell? ⟨(b + 3), 1, none⟩ = some (.string n) ∧ w'.cell? ⟨(b + 3), 2, none⟩ = some (.int .i64 (3 - o)) ∧ w'.cell? ⟨(b + 3), 3, none⟩ = some (.string v) ∧ w'.cell? ⟨(b + 1), 0, none⟩ = some (.slice p1 n1 c1) ∧ w'.cell? ⟨(b + 1), 1, none⟩ = some (.slice p2 n2 c2) ∧ w'.cell? ⟨(b + 1), 2, none⟩ = some (.slice none 0 0) ∧ w'.cell? ⟨(b + 1), 3, none⟩ = some (.slice none 0 0) ∧ w'.cell? ⟨(b + 1), 4, none⟩ = some (.slice none 0 0) ∧ w'.cell? ⟨(b + 1), 5, none⟩ = some (.string ⟨#[]⟩) ∧ w'.cell? ⟨(b + 1), 6, none⟩ = some (.int .i64 0) ∧ w'.cell? ⟨(b + 1), 7, none⟩ = some (.string ⟨#[]⟩) ∧ w'.cell? ⟨(b + 1), 8, none⟩ = some (.string ⟨#[]⟩) ∧ w'.cell? ⟨(b + 1), 9, none⟩ = some (.int .i64 0) ∧ w'.cell? ⟨(b + 1), 10, none⟩ = some (.string rs) ∧ w'.cell? ⟨(b + 1), 11, none⟩ = some (.int .i64 0) ∧ w'.cell? ⟨(b + 1), 12, none⟩ = some (.int .i64 0) ∧ w'.cell? ⟨(b + 1), 13, none⟩ = some (.slice none 0 0))
              ((first | exact hS0 | exact hS1 | exact hk.out _ hy1 | exact hk.out _ hy2 | exact hk.out _ hy3))
              (first | (go_at_call 11; first | (refine (hDr2.out _ hy1).mono ?_; rintro e y2 ⟨rfl, hy2⟩) | (refine (hDr1.out _ hS1.1).mono ?_; rintro e y1 ⟨rfl, hy1⟩)) | (go_at_call 8; refine (hKn.out _ hy2).mono ?_; rintro e y3 ⟨rfl, hy3⟩) | fail))) | fail)
            have hfin := Lib.hid (hB4.out.trans (hy3.mono hB4.out.size))
            clear hy1 hy2 hy3 hk hS0 hS1 t0 t1 t2 t3 u0 u1 u2 u3 d0 d1 d2 d3 d4 d5 d6 d7 d8 d9 d10 d11 d12 d13
            go_wp2_with fail
            go_ret
            exact ⟨rfl, hfin.out⟩
          | false =>
            obtain rfl : F2 = true := e2
            go_upto_region 12 with fail
            have t0 := (ht.out.below hz2 ht.out.lt).cell 0
            have t1 := (ht.out.below hz2 ht.out.lt).cell 1
            have t2 := (ht.out.below hz2 ht.out.lt).cell 2
            have t3 := (ht.out.below hz2 ht.out.lt).cell 3
            simp only [List.getElem?_toArray, List.getElem?_cons_zero, List.getElem?_cons_succ] at t0 t1 t2 t3
            have u0 := (hu.out.below hz2 hu.out.lt).cell 0
            have u1 := (hu.out.below hz2 hu.out.lt).cell 1
            have u2 := (hu.out.below hz2 hu.out.lt).cell 2
            have u3 := (hu.out.below hz2 hu.out.lt).cell 3
            simp only [List.getElem?_toArray, List.getElem?_cons_zero, List.getElem?_cons_succ] at u0 u1 u2 u3
            have d0 := (hd.out.below hz2 hd.out.lt).cell 0
            have d1 := (hd.out.below hz2 hd.out.lt).cell 1
            have d2 := (hd.out.below hz2 hd.out.lt).cell 2
            have d3 := (hd.out.below hz2 hd.out.lt).cell 3
            have d4 := (hd.out.below hz2 hd.out.lt).cell 4
            have d5 := (hd.out.below hz2 hd.out.lt).cell 5
            have d6 := (hd.out.below hz2 hd.out.lt).cell 6
            have d7 := (hd.out.below hz2 hd.out.lt).cell 7
            have d8 := (hd.out.below hz2 hd.out.lt).cell 8
            have d9 := (hd.out.below hz2 hd.out.lt).cell 9
            have d10 := (hd.out.below hz2 hd.out.lt).cell 10
            have d11 := (hd.out.below hz2 hd.out.lt).cell 11
            have d12 := (hd.out.below hz2 hd.out.lt).cell 12
            have d13 := (hd.out.below hz2 hd.out.lt).cell 13
            simp only [List.getElem?_toArray, List.getElem?_cons_zero, List.getElem?_cons_succ] at d0 d1 d2 d3 d4 d5 d6 d7 d8 d9 d10 d11 d12 d13
            have hS0 : Below w4.heap.size w4 z2 ∧ z2.cell? ⟨b, 0, none⟩ = some (.int .i64 13) ∧ z2.cell? ⟨b, 1, none⟩ = some (.string n) ∧ z2.cell? ⟨b, 2, none⟩ = some (.int .i64 (o)) ∧ z2.cell? ⟨b, 3, none⟩ = some (.string v) ∧ z2.cell? ⟨(b + 3), 0, none⟩ = some (.int .i64 13) ∧ z2.cell? ⟨(b + 3), 1, none⟩ = some (.string n) ∧ z2.cell? ⟨(b + 3), 2, none⟩ = some (.int .i64 (3 - o)) ∧ z2.cell? ⟨(b + 3), 3, none⟩ = some (.string v) ∧ z2.cell? ⟨(b + 1), 0, none⟩ = some (.slice p1 n1 c1) ∧ z2.cell? ⟨(b + 1), 1, none⟩ = some (.slice p2 n2 c2) ∧ z2.cell? ⟨(b + 1), 2, none⟩ = some (.slice none 0 0) ∧ z2.cell? ⟨(b + 1), 3, none⟩ = some (.slice none 0 0) ∧ z2.cell? ⟨(b + 1), 4, none⟩ = some (.slice none 0 0) ∧ z2.cell? ⟨(b + 1), 5, none⟩ = some (.string ⟨#[]⟩) ∧ z2.cell? ⟨(b + 1), 6, none⟩ = some (.int .i64 0) ∧ z2.cell? ⟨(b + 1), 7, none⟩ = some (.string ⟨#[]⟩) ∧ z2.cell? ⟨(b + 1), 8, none⟩ = some (.string ⟨#[]⟩) ∧ z2.cell? ⟨(b + 1), 9, none⟩ = some (.int .i64 0) ∧ z2.cell? ⟨(b + 1), 10, none⟩ = some (.string rs) ∧ z2.cell? ⟨(b + 1), 11, none⟩ = some (.int .i64 0) ∧ z2.cell? ⟨(b + 1), 12, none⟩ = some (.int .i64 0) ∧ z2.cell? ⟨(b + 1), 13, none⟩ = some (.slice none 0 0) := ⟨hz2, t0, t1, t2, t3, u0, u1, u2, u3, d0, d1, d2, d3, d4, d5, d6, d7, d8, d9, d10, d11, d12, d13⟩
            have hS1 : Below w4.heap.size w4 z2.drew ∧ z2.drew.cell? ⟨b, 0, none⟩ = some (.int .i64 13) ∧ z2.drew.cell? ⟨b, 1, none⟩ = some (.string n) ∧ z2.drew.cell? ⟨b, 2, none⟩ = some (.int .i64 (o)) ∧ z2.drew.cell? ⟨b, 3, none⟩ = some (.string v) ∧ z2.drew.cell? ⟨(b + 3), 0, none⟩ = some (.int .i64 13) ∧ z2.drew.cell? ⟨(b + 3), 1, none⟩ = some (.string n) ∧ z2.drew.cell? ⟨(b + 3), 2, none⟩ = some (.int .i64 (3 - o)) ∧ z2.drew.cell? ⟨(b + 3), 3, none⟩ = some (.string v) ∧ z2.drew.cell? ⟨(b + 1), 0, none⟩ = some (.slice p1 n1 c1) ∧ z2.drew.cell? ⟨(b + 1), 1, none⟩ = some (.slice p2 n2 c2) ∧ z2.drew.cell? ⟨(b + 1), 2, none⟩ = some (.slice none 0 0) ∧ z2.drew.cell? ⟨(b + 1), 3, none⟩ = some (.slice none 0 0) ∧ z2.drew.cell? ⟨(b + 1), 4, none⟩ = some (.slice none 0 0) ∧ z2.drew.cell? ⟨(b + 1), 5, none⟩ = some (.string ⟨#[]⟩) ∧ z2.drew.cell? ⟨(b + 1), 6, none⟩ = some (.int .i64 0) ∧ z2.drew.cell? ⟨(b + 1), 7, none⟩ = some (.string ⟨#[]⟩) ∧ z2.drew.cell? ⟨(b + 1), 8, none⟩ = some (.string ⟨#[]⟩) ∧ z2.drew.cell? ⟨(b + 1), 9, none⟩ = some (.int .i64 0) ∧ z2.drew.cell? ⟨(b + 1), 10, none⟩ = some (.string rs) ∧ z2.drew.cell? ⟨(b + 1), 11, none⟩ = some (.int .i64 0) ∧ z2.drew.cell? ⟨(b + 1), 12, none⟩ = some (.int .i64 0) ∧ z2.drew.cell? ⟨(b + 1), 13, none⟩ = some (.slice none 0 0) := ⟨Below.drew hz2, t0, t1, t2, t3, u0, u1, u2, u3, d0, d1, d2, d3, d4, d5, d6, d7, d8, d9, d10, d11, d12, d13⟩
            have hk : Hid (∀ y, Below w4.heap.size w4 y → Below w4.heap.size w4 y ∧ y.cell? ⟨b, 0, none⟩ = some (.int .i64 13) ∧ y.cell? ⟨b, 1, none⟩ = some (.string n) ∧ y.cell? ⟨b, 2, none⟩ = some (.int .i64 (o)) ∧ y.cell? ⟨b, 3, none⟩ = some (.string v) ∧ y.cell? ⟨(b + 3), 0, none⟩ = some (.int .i64 13) ∧ y.cell? ⟨(b + 3), 1, none⟩ = some (.string n) ∧ y.cell? ⟨(b + 3), 2, none⟩ = some (.int .i64 (3 - o)) ∧ y.cell? ⟨(b + 3), 3, none⟩ = some (.string v) ∧ y.cell? ⟨(b + 1), 0, none⟩ = some (.slice p1 n1 c1) ∧ y.cell? ⟨(b + 1), 1, none⟩ = some (.slice p2 n2 c2) ∧ y.cell? ⟨(b + 1), 2, none⟩ = some (.slice none 0 0) ∧ y.cell? ⟨(b + 1), 3, none⟩ = some (.slice none 0 0) ∧ y.cell? ⟨(b + 1), 4, none⟩ = some (.slice none 0 0) ∧ y.cell? ⟨(b + 1), 5, none⟩ = some (.string ⟨#[]⟩) ∧ y.cell? ⟨(b + 1), 6, none⟩ = some (.int .i64 0) ∧ y.cell? ⟨(b + 1), 7, none⟩ = some (.string ⟨#[]⟩) ∧ y.cell? ⟨(b + 1), 8, none⟩ = some (.string ⟨#[]⟩) ∧ y.cell? ⟨(b + 1), 9, none⟩ = some (.int .i64 0) ∧ y.cell? ⟨(b + 1), 10, none⟩ = some (.string rs) ∧ y.cell? ⟨(b + 1), 11, none⟩ = some (.int .i64 0) ∧ y.cell? ⟨(b + 1), 12, none⟩ = some (.int .i64 0) ∧ y.cell? ⟨(b + 1), 13, none⟩ = some (.slice none 0 0)) := fun y h => by
              have et := ht.out.below h ht.out.lt
              have eu := hu.out.below h hu.out.lt
              have ed := hd.out.below h hd.out.lt
              exact ⟨h, (et.cell 0).trans rfl, (et.cell 1).trans rfl, (et.cell 2).trans rfl, (et.cell 3).trans rfl, (eu.cell 0).trans rfl, (eu.cell 1).trans rfl, (eu.cell 2).trans rfl, (eu.cell 3).trans rfl, (ed.cell 0).trans rfl, (ed.cell 1).trans rfl, (ed.cell 2).trans rfl, (ed.cell 3).trans rfl, (ed.cell 4).trans rfl, (ed.cell 5).trans rfl, (ed.cell 6).trans rfl, (ed.cell 7).trans rfl, (ed.cell 8).trans rfl, (ed.cell 9).trans rfl, (ed.cell 10).trans rfl, (ed.cell 11).trans rfl, (ed.cell 12).trans rfl, (ed.cell 13).trans rfl⟩
            (first | (go_must (go_region_held3 (fun w' => Below w4.heap.size w4 w' ∧ w'.cell? ⟨b, 0, none⟩ = some (.int .i64 13) ∧ w'.cell? ⟨b, 1, none⟩ = some (.string n) ∧ w'.cell? ⟨b, 2, none⟩ = some (.int .i64 (o)) ∧ w'.cell? ⟨b, 3, none⟩ = some (.string v) ∧ w'.cell? ⟨(b + 3), 0, none⟩ = some (.int .i64 13) ∧ w'.cell? ⟨(b + 3), 1, none⟩ = some (.string n) ∧ w'.cell? ⟨(b + 3), 2, none⟩ = some (.int .i64 (3 - o)) ∧ w'.cell? ⟨(b + 3), 3, none⟩ = some (.string v) ∧ w'.cell? ⟨(b + 1), 0, none⟩ = some (.slice p1 n1 c1) ∧ w'.cell? ⟨(b + 1), 1, none⟩ = some (.slice p2 n2 c2) ∧ w'.cell? ⟨(b + 1), 2, none⟩ = some (.slice none 0 0) ∧ w'.cell? ⟨(b + 1), 3, none⟩ = some (.slice none 0 0) ∧ w'.cell? ⟨(b + 1), 4, none⟩ = some (.slice none 0 0) ∧ w'.cell? ⟨(b + 1), 5, none⟩ = some (.string ⟨#[]⟩) ∧ w'.cell? ⟨(b + 1), 6, none⟩ = some (.int .i64 0) ∧ w'.cell? ⟨(b + 1), 7, none⟩ = some (.string ⟨#[]⟩) ∧ w'.cell? ⟨(b + 1), 8, none⟩ = some (.string ⟨#[]⟩) ∧ w'.cell? ⟨(b + 1), 9, none⟩ = some (.int .i64 0) ∧ w'.cell? ⟨(b + 1), 10, none⟩ = some (.string rs) ∧ w'.cell? ⟨(b + 1), 11, none⟩ = some (.int .i64 0) ∧ w'.cell? ⟨(b + 1), 12, none⟩ = some (.int .i64 0) ∧ w'.cell? ⟨(b + 1), 13, none⟩ = some (.slice none 0 0))
              ((first | exact hS0 | exact hS1 | exact hk.out _ hy1 | exact hk.out _ hy2 | exact hk.out _ hy3))
              (first | (go_at_call 11; first | (refine (hDr2.out _ hy1).mono ?_; rintro e y2 ⟨rfl, hy2⟩) | (refine (hDr1.out _ hS1.1).mono ?_; rintro e y1 ⟨rfl, hy1⟩)) | (go_at_call 8; refine (hKn.out _ hy2).mono ?_; rintro e y3 ⟨rfl, hy3⟩) | fail))) | fail)
            have hfin := Lib.hid (hB4.out.trans (hy3.mono hB4.out.size))
            clear hy1 hy2 hy3 hk hS0 hS1 t0 t1 t2 t3 u0 u1 u2 u3 d0 d1 d2 d3 d4 d5 d6 d7 d8 d9 d10 d11 d12 d13
            go_wp2_with fail
            go_ret
            exact ⟨rfl, hfin.out⟩
      · obtain ⟨k1, k6, k7, k13⟩ : ¬ k = 1 ∧ ¬ k = 6 ∧ ¬ k = 7 ∧ ¬ k = 13 := by omega
        clear hkk
        obtain rfl : F1 = false := hfn.out k1 k6 k7 k13
        have d0 := (hd.out.below hz2 hd.out.lt).cell 0
        have d1 := (hd.out.below hz2 hd.out.lt).cell 1
        have d2 := (hd.out.below hz2 hd.out.lt).cell 2
        have d3 := (hd.out.below hz2 hd.out.lt).cell 3
        have d4 := (hd.out.below hz2 hd.out.lt).cell 4
        have d5 := (hd.out.below hz2 hd.out.lt).cell 5
        have d6 := (hd.out.below hz2 hd.out.lt).cell 6
        have d7 := (hd.out.below hz2 hd.out.lt).cell 7
        have d8 := (hd.out.below hz2 hd.out.lt).cell 8
        have d9 := (hd.out.below hz2 hd.out.lt).cell 9
        have d10 := (hd.out.below hz2 hd.out.lt).cell 10
        have d11 := (hd.out.below hz2 hd.out.lt).cell 11
        have d12 := (hd.out.below hz2 hd.out.lt).cell 12
        have d13 := (hd.out.below hz2 hd.out.lt).cell 13
        simp only [List.getElem?_toArray, List.getElem?_cons_zero, List.getElem?_cons_succ] at d0 d1 d2 d3 d4 d5 d6 d7 d8 d9 d10 d11 d12 d13
        go_wp2_with fail
        refine (hDr1.out _ hz2).mono ?_
        rintro e z3 ⟨rfl, hz3⟩
        clear t0 t1 t2 t3 d0 d1 d2 d3 d4 d5 d6 d7 d8 d9 d10 d11 d12 d13
        have t0 := (ht.out.below hz3 ht.out.lt).cell 0
        have t1 := (ht.out.below hz3 ht.out.lt).cell 1
        have t2 := (ht.out.below hz3 ht.out.lt).cell 2
        have t3 := (ht.out.below hz3 ht.out.lt).cell 3
        simp only [List.getElem?_toArray, List.getElem?_cons_zero, List.getElem?_cons_succ] at t0 t1 t2 t3
        have v0 := (hv.out.below hz3 hv.out.lt).cell 0
        have v1 := (hv.out.below hz3 hv.out.lt).cell 1
        have v2 := (hv.out.below hz3 hv.out.lt).cell 2
        have v3 := (hv.out.below hz3 hv.out.lt).cell 3
        have v4 := (hv.out.below hz3 hv.out.lt).cell 4
        have v5 := (hv.out.below hz3 hv.out.lt).cell 5
        have v6 := (hv.out.below hz3 hv.out.lt).cell 6
        have v7 := (hv.out.below hz3 hv.out.lt).cell 7
        have v8 := (hv.out.below hz3 hv.out.lt).cell 8
        have v9 := (hv.out.below hz3 hv.out.lt).cell 9
        simp only [List.getElem?_toArray, List.getElem?_cons_zero, List.getElem?_cons_succ] at v0 v1 v2 v3 v4 v5 v6 v7 v8 v9
        go_wp2_with fail
        refine (hDe1.out _ hz3).mono ?_
        rintro e z4 ⟨rfl, hz4⟩
        clear t0 t1 t2 t3 v0 v1 v2 v3 v4 v5 v6 v7 v8 v9
        go_wp2_with fail
        refine (hKn.out _ hz4).mono ?_
        rintro e z5 ⟨rfl, hz5⟩
        have hfin := Lib.hid (hB4.out.trans (hz5.mono hB4.out.size))
        go_wp2_with fail
        go_ret
        exact ⟨rfl, hfin.out⟩

end Go.Proofs.Ytfihccfjboopiaa
