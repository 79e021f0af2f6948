/-
  THE WALK of coldpluglaw12.draft: the maker of drafts.
-/
import Derived.Test.YtfihccfjboopiaaMatchLawBase
import Derived.Deep.AppendLies
import Derived.Deep.LoopGhost
namespace Go.Proofs.Ytfihccfjboopiaa
open Go.RowKit

def tD0 : List ByteArray := [⟨#[]⟩, ⟨#[111, 110, 101, 32, 116, 119, 111]⟩, ⟨#[120]⟩]
def tD1 : List ByteArray := [⟨#[49]⟩, ⟨#[117, 49]⟩]
def tD2 : List ByteArray := [⟨#[115, 101, 97, 116]⟩, ⟨#[120, 49]⟩, ⟨#[121]⟩]
/-- A draft of the maker: result, properties, tags. -/
def mkDft (rs : ByteArray) (pv tv : Value) (pl : List Att) (tl : List ByteArray) : Dft := ⟨pv, tv, .slice none 0 0, .slice none 0 0, .slice none 0 0, ⟨#[]⟩, 0, ⟨#[]⟩, ⟨#[]⟩, 0, rs, 0, 0, .slice none 0 0, pl, tl⟩
theorem info_str : (Try.prog.info? 9).map (fun i => (i.zero, i.size, i.bytes)) = some (some (.string ⟨#[]⟩), 1, 16) := by kernel_rfl
/-- The properties lie in a block of their own, ahead of Bt and not in these. -/
def PvOk (w : World) (Bt g rb db : Nat) (pv : Value) (pl : List Att) : Prop := RowAt w pv 2 (pl.map attC) ∧ ∀ b o n c, pv = .slice (some ⟨b, o, none⟩) n c → b ≠ g ∧ b ≠ rb ∧ b ≠ db ∧ b < Bt
def flatS (l : List ByteArray) : List Value := l.map Value.string
/-- A tag more: what holds behind the append and the store. -/
theorem draft_tag {x5 wr y1 w4 : World} {B g db q n : Nat} {tv v2 : Value} {cs : Array Value} {o : Obj} {xs : List Value} (hD : Blk wr db 28 cs) (hO : Only (fun j => j = g ∨ j = db) x5 wr) (hTy : Tape y1 B g q) (hOy : Only (fun j => j = g) wr.drew y1)
    (hown : w4.ownsRow x5.heap.size 9 1 v2 n xs) (hgrow : (y1.alloc o).grownBy w4 tv.ownBlock) (hv : ∀ j, tv.ownBlock = some j → x5.heap.size ≤ j) (hn : ∀ j, v2.ownBlock = some j → x5.heap.size ≤ j) (hg : g < x5.heap.size) (hdb : db < x5.heap.size) (hgd : g < db) (hB : B ≤ g) :
    (w4.setCell ⟨db, 1, none⟩ v2).ownsRow x5.heap.size 9 1 v2 n xs ∧ Blk (w4.setCell ⟨db, 1, none⟩ v2) db 28 (cs.setIfInBounds 1 v2) ∧ Tape (w4.setCell ⟨db, 1, none⟩ v2) B g q ∧ Only (fun j => j = g ∨ j = db) x5 (w4.setCell ⟨db, 1, none⟩ v2) := by
  have hOw : Only (fun j => j = db) w4 (w4.setCell ⟨db, 1, none⟩ v2) := Only.setCell (S := fun j => j = db) (Only.refl _ _) (p := ⟨db, 1, none⟩) (.inl rfl) _
  have h1 : Only (fun j => tv.ownBlock = some j) y1 w4 := ((Only.refl _ _).alloc _).grown hgrow fun j hj => .inl hj
  have hD4 : Blk w4 db 28 cs := (Blk.only (Blk.only (S := fun j => j = g) (w := wr.drew) hD hOy (by omega)) h1 (fun e => by have := hv _ e; omega))
  refine ⟨own_only hown hOw (fun j hj e => by have := hn j hj; omega), hD4.store 1 _, ?_, ?_⟩
  · exact (hTy.only h1 (fun e => by have := hv _ e; omega) (fun j e => by have := hv _ e; omega)).only hOw (by omega) (fun j e => by omega)
  · exact (((hO.drew.step hOy fun i e => .inl (.inl e)).step h1 fun i e => .inr (hv i e)).step hOw fun i e => .inl (.inr e))
theorem tape_drew {w : World} {B g q : Nat} (h : Tape w B g q) : Tape w.drew B g q := h


set_option maxRecDepth 100000 in
set_option maxHeartbeats 4000000 in
theorem mdraft_any (B g q0 : Nat) (w : World) (hT : Tape w B g q0) (hq0 : q0 ≤ 100000) :
    Calls Try.prog 9 #[.pointer (some ⟨g, 0, none⟩)] w fun e w' => ∃ (x : Dft) (q : Nat), e = .returned (.agg (dftC x)) ∧ q ≤ q0 + 7 ∧ x = mkDft x.rs x.pv x.tv x.pl x.tl ∧ DftAt w' x ∧ DftFit x ∧ DftOff g x ∧ Tape w' B g q ∧ Only (fun j => j = g) w w' := by
  obtain ⟨i0, hi0, hz0, hz1, hz2⟩ := info_parts info_str
  have hi0' := Lib.hid hi0; clear hi0
  have hz0' := Lib.hid hz0; clear hz0
  have hz1' := Lib.hid hz1; clear hz1
  have hz2' := Lib.hid hz2; clear hz2
  have hlt : g < w.heap.size := hT.lt.2
  have hBg : B ≤ g := hT.lt.1
  have hT' := Lib.hid hT; clear hT
  have hR0 : Hid (Blk (w.alloc (.cells #[.slice none 0 0, .slice none 0 0, .slice none 0 0, .slice none 0 0, .slice none 0 0, .string ⟨#[]⟩, .int .i64 0, .string ⟨#[]⟩, .string ⟨#[]⟩, .int .i64 0, .string ⟨#[]⟩, .int .i64 0, .int .i64 0, .slice none 0 0] 28)) w.heap.size 28 #[.slice none 0 0, .slice none 0 0, .slice none 0 0, .slice none 0 0, .slice none 0 0, .string ⟨#[]⟩, .int .i64 0, .string ⟨#[]⟩, .string ⟨#[]⟩, .int .i64 0, .string ⟨#[]⟩, .int .i64 0, .int .i64 0, .slice none 0 0]) := Blk.new _ _ _
  have hO0 : Hid (Only (fun j => j = g) w (w.alloc (.cells #[.slice none 0 0, .slice none 0 0, .slice none 0 0, .slice none 0 0, .slice none 0 0, .string ⟨#[]⟩, .int .i64 0, .string ⟨#[]⟩, .string ⟨#[]⟩, .int .i64 0, .string ⟨#[]⟩, .int .i64 0, .int .i64 0, .slice none 0 0] 28))) := (Only.refl _ _).alloc _
  have hC0 := one_new B g q0 3 3 tD0 _ (hT'.out.below ((Below.refl _ _).alloc (Nat.le_refl _) (.cells #[.slice none 0 0, .slice none 0 0, .slice none 0 0, .slice none 0 0, .slice none 0 0, .string ⟨#[]⟩, .int .i64 0, .string ⟨#[]⟩, .string ⟨#[]⟩, .int .i64 0, .string ⟨#[]⟩, .int .i64 0, .int .i64 0, .slice none 0 0] 28))) (by omega) rfl (by omega) (by omega)
  rw [show (w.alloc (.cells #[.slice none 0 0, .slice none 0 0, .slice none 0 0, .slice none 0 0, .slice none 0 0, .string ⟨#[]⟩, .int .i64 0, .string ⟨#[]⟩, .string ⟨#[]⟩, .int .i64 0, .string ⟨#[]⟩, .int .i64 0, .int .i64 0, .slice none 0 0] 28)).heap.size = w.heap.size + 1 from by simp] at hC0
  have hC := Lib.hid hC0; clear hC0
  go_enter Try.func9, Try.ntmps9
  go_wp2_with fail
  refine hC.out.mono ?_
  rintro e x1 ⟨⟨s0, hs0, rfl⟩, hTx, hOx⟩
  have hs0' := Lib.hid (sml_mem (L := tD0) rfl hs0)
  have hR1 : Hid (Blk (x1.alloc (.cells #[.slice none 0 0, .slice none 0 0, .slice none 0 0, .slice none 0 0, .slice none 0 0, .string ⟨#[]⟩, .int .i64 0, .string ⟨#[]⟩, .string ⟨#[]⟩, .int .i64 0, .string s0, .int .i64 0, .int .i64 0, .slice none 0 0] 28)) w.heap.size 28 #[.slice none 0 0, .slice none 0 0, .slice none 0 0, .slice none 0 0, .slice none 0 0, .string ⟨#[]⟩, .int .i64 0, .string ⟨#[]⟩, .string ⟨#[]⟩, .int .i64 0, .string ⟨#[]⟩, .int .i64 0, .int .i64 0, .slice none 0 0]) := (hR0.out.only hOx (by omega)).alloc _
  have hD1 : Hid (Blk (x1.alloc (.cells #[.slice none 0 0, .slice none 0 0, .slice none 0 0, .slice none 0 0, .slice none 0 0, .string ⟨#[]⟩, .int .i64 0, .string ⟨#[]⟩, .string ⟨#[]⟩, .int .i64 0, .string s0, .int .i64 0, .int .i64 0, .slice none 0 0] 28)) x1.heap.size 28 #[.slice none 0 0, .slice none 0 0, .slice none 0 0, .slice none 0 0, .slice none 0 0, .string ⟨#[]⟩, .int .i64 0, .string ⟨#[]⟩, .string ⟨#[]⟩, .int .i64 0, .string s0, .int .i64 0, .int .i64 0, .slice none 0 0]) := Blk.new _ _ _
  have hT1 : Hid (Tape (x1.alloc (.cells #[.slice none 0 0, .slice none 0 0, .slice none 0 0, .slice none 0 0, .slice none 0 0, .string ⟨#[]⟩, .int .i64 0, .string ⟨#[]⟩, .string ⟨#[]⟩, .int .i64 0, .string s0, .int .i64 0, .int .i64 0, .slice none 0 0] 28)) B g (q0 + 1)) := hTx.below ((Below.refl _ _).alloc (Nat.le_refl _) _)
  have hO1 : Hid (Only (fun j => j = g) w (x1.alloc (.cells #[.slice none 0 0, .slice none 0 0, .slice none 0 0, .slice none 0 0, .slice none 0 0, .string ⟨#[]⟩, .int .i64 0, .string ⟨#[]⟩, .string ⟨#[]⟩, .int .i64 0, .string s0, .int .i64 0, .int .i64 0, .slice none 0 0] 28))) := (hO0.out.trans hOx).alloc _
  have hz1 : w.heap.size < x1.heap.size := by have := hOx.size; simp at this; omega
  clear hOx hTx hs0 hR0 hO0 hC hT'
  have hC := Lib.hid (next_any B g (q0 + 1) 2 _ hT1.out (by omega) (by omega) (by omega))
  go_wp2_with fail
  generalize x1.alloc (.cells #[.slice none 0 0, .slice none 0 0, .slice none 0 0, .slice none 0 0, .slice none 0 0, .string ⟨#[]⟩, .int .i64 0, .string ⟨#[]⟩, .string ⟨#[]⟩, .int .i64 0, .string s0, .int .i64 0, .int .i64 0, .slice none 0 0] 28) = x2 at *
  generalize x1.heap.size = db at *
  refine hC.out.mono ?_
  rintro e x3 ⟨⟨r, hr, rfl⟩, hTx, hOx⟩
  have hgd : g < db := by omega
  have hR3 : Hid (Blk x3 w.heap.size 28 #[.slice none 0 0, .slice none 0 0, .slice none 0 0, .slice none 0 0, .slice none 0 0, .string ⟨#[]⟩, .int .i64 0, .string ⟨#[]⟩, .string ⟨#[]⟩, .int .i64 0, .string ⟨#[]⟩, .int .i64 0, .int .i64 0, .slice none 0 0]) := hR1.out.only hOx (by omega)
  have hD3 : Hid (Blk x3 db 28 #[.slice none 0 0, .slice none 0 0, .slice none 0 0, .slice none 0 0, .slice none 0 0, .string ⟨#[]⟩, .int .i64 0, .string ⟨#[]⟩, .string ⟨#[]⟩, .int .i64 0, .string s0, .int .i64 0, .int .i64 0, .slice none 0 0]) := hD1.out.only hOx (by omega)
  have hT3 := Lib.hid hTx
  have hO3 := Lib.hid (hO1.out.trans hOx)
  clear hOx hTx hR1 hD1 hT1 hO1 hC
  obtain ⟨b, hb0⟩ : ∃ b : Bool, ((r : Int) == 0) = b := ⟨_, rfl⟩
  go_upto_if 11 with fail
  clear hb0
  go_cut [] (fun wc => ∃ (pv : Value) (pl : List Att) (q : Nat), q ≤ q0 + 3 ∧ Hid (∀ a ∈ pl, a.2.size ≤ 100) ∧ Hid (PvOk wc wc.heap.size g w.heap.size db pv pl) ∧ Hid (Blk wc w.heap.size 28 #[.slice none 0 0, .slice none 0 0, .slice none 0 0, .slice none 0 0, .slice none 0 0, .string ⟨#[]⟩, .int .i64 0, .string ⟨#[]⟩, .string ⟨#[]⟩, .int .i64 0, .string ⟨#[]⟩, .int .i64 0, .int .i64 0, .slice none 0 0]) ∧ Hid (Blk wc db 28 #[pv, .slice none 0 0, .slice none 0 0, .slice none 0 0, .slice none 0 0, .string ⟨#[]⟩, .int .i64 0, .string ⟨#[]⟩, .string ⟨#[]⟩, .int .i64 0, .string s0, .int .i64 0, .int .i64 0, .slice none 0 0]) ∧ Hid (Tape wc B g q) ∧ Hid (Only (fun j => j = g) w wc))
  case first =>
    cases b with
    | false =>
      go_wp2_with fail
      go_meet
      case rel => exact ⟨.slice none 0 0, [], q0 + 2, by omega, (show ∀ a ∈ ([] : List Att), a.2.size ≤ 100 from fun a ha => by cases ha), ⟨⟨by simp, .inl ⟨rfl, rfl⟩⟩, fun b o n c e => by cases e⟩, hR3, hD3, hT3, hO3⟩
    | true =>
      have hC := Lib.hid (one_new B g (q0 + 2) 2 2 tD1 _ hT3.out (by omega) rfl (by omega) (by omega))
      go_wp2_with fail
      refine hC.out.mono ?_
      rintro e x4 ⟨⟨s1, hs1, rfl⟩, hTx, hOx⟩
      have hs1' := Lib.hid (sml_mem (L := tD1) rfl hs1)
      have hDx := hD3.out.only hOx (by omega)
      have hRx := hR3.out.only hOx (by omega)
      have hOy := hO3.out.trans hOx
      have hz4 : db < x4.heap.size := hDx.lt
      have c0 := hDx.cell 0
      have f0 := hDx.frozen 0
      simp only [List.getElem?_toArray, List.getElem?_cons_zero] at c0
      have hOw : Only (fun j => j = db) x4 (x4.setCell ⟨db, 0, none⟩ (.slice (some ⟨x4.heap.size, 0, none⟩) 2 2)) := Only.setCell (S := fun j => j = db) (Only.refl _ _) (p := ⟨db, 0, none⟩) (.inl rfl) _
      have hsz : (x4.setCell ⟨db, 0, none⟩ (.slice (some ⟨x4.heap.size, 0, none⟩) 2 2)).heap.size = x4.heap.size := by simp
      have hD5 : Hid (Blk ((x4.setCell ⟨db, 0, none⟩ (.slice (some ⟨x4.heap.size, 0, none⟩) 2 2)).alloc (.cells #[.string ⟨#[73, 68, 95, 65]⟩, .string s1, .string ⟨#[83, 85, 66, 83, 89, 83, 84, 69, 77]⟩, .string ⟨#[98, 108, 111, 99, 107]⟩] 40)) db 28 #[.slice (some ⟨x4.heap.size, 0, none⟩) 2 2, .slice none 0 0, .slice none 0 0, .slice none 0 0, .slice none 0 0, .string ⟨#[]⟩, .int .i64 0, .string ⟨#[]⟩, .string ⟨#[]⟩, .int .i64 0, .string s0, .int .i64 0, .int .i64 0, .slice none 0 0]) := (hDx.store 0 _).alloc _
      have hR5 : Hid (Blk ((x4.setCell ⟨db, 0, none⟩ (.slice (some ⟨x4.heap.size, 0, none⟩) 2 2)).alloc (.cells #[.string ⟨#[73, 68, 95, 65]⟩, .string s1, .string ⟨#[83, 85, 66, 83, 89, 83, 84, 69, 77]⟩, .string ⟨#[98, 108, 111, 99, 107]⟩] 40)) w.heap.size 28 #[.slice none 0 0, .slice none 0 0, .slice none 0 0, .slice none 0 0, .slice none 0 0, .string ⟨#[]⟩, .int .i64 0, .string ⟨#[]⟩, .string ⟨#[]⟩, .int .i64 0, .string ⟨#[]⟩, .int .i64 0, .int .i64 0, .slice none 0 0]) := (hRx.only hOw (by omega)).alloc _
      have hT5 : Hid (Tape ((x4.setCell ⟨db, 0, none⟩ (.slice (some ⟨x4.heap.size, 0, none⟩) 2 2)).alloc (.cells #[.string ⟨#[73, 68, 95, 65]⟩, .string s1, .string ⟨#[83, 85, 66, 83, 89, 83, 84, 69, 77]⟩, .string ⟨#[98, 108, 111, 99, 107]⟩] 40)) B g (q0 + 3)) := (hTx.only hOw (by omega) (fun j e => by omega)).below ((Below.refl _ _).alloc (Nat.le_refl _) _)
      have hO5 : Hid (Only (fun j => j = g) w ((x4.setCell ⟨db, 0, none⟩ (.slice (some ⟨x4.heap.size, 0, none⟩) 2 2)).alloc (.cells #[.string ⟨#[73, 68, 95, 65]⟩, .string s1, .string ⟨#[83, 85, 66, 83, 89, 83, 84, 69, 77]⟩, .string ⟨#[98, 108, 111, 99, 107]⟩] 40))) := (hOy.setCell (p := ⟨db, 0, none⟩) (.inr (by show w.heap.size ≤ db; omega)) _).alloc _
      have hP5 : Blk ((x4.setCell ⟨db, 0, none⟩ (.slice (some ⟨x4.heap.size, 0, none⟩) 2 2)).alloc (.cells #[.string ⟨#[73, 68, 95, 65]⟩, .string s1, .string ⟨#[83, 85, 66, 83, 89, 83, 84, 69, 77]⟩, .string ⟨#[98, 108, 111, 99, 107]⟩] 40)) x4.heap.size 40 #[.string ⟨#[73, 68, 95, 65]⟩, .string s1, .string ⟨#[83, 85, 66, 83, 89, 83, 84, 69, 77]⟩, .string ⟨#[98, 108, 111, 99, 107]⟩] := Blk.new_ _ _ _ hsz.symm
      have hPv : Hid (PvOk ((x4.setCell ⟨db, 0, none⟩ (.slice (some ⟨x4.heap.size, 0, none⟩) 2 2)).alloc (.cells #[.string ⟨#[73, 68, 95, 65]⟩, .string s1, .string ⟨#[83, 85, 66, 83, 89, 83, 84, 69, 77]⟩, .string ⟨#[98, 108, 111, 99, 107]⟩] 40)) ((x4.setCell ⟨db, 0, none⟩ (.slice (some ⟨x4.heap.size, 0, none⟩) 2 2)).alloc (.cells #[.string ⟨#[73, 68, 95, 65]⟩, .string s1, .string ⟨#[83, 85, 66, 83, 89, 83, 84, 69, 77]⟩, .string ⟨#[98, 108, 111, 99, 107]⟩] 40)).heap.size g w.heap.size db (.slice (some ⟨x4.heap.size, 0, none⟩) 2 2) [(⟨#[73, 68, 95, 65]⟩, s1), (⟨#[83, 85, 66, 83, 89, 83, 84, 69, 77]⟩, ⟨#[98, 108, 111, 99, 107]⟩)]) := by
        refine ⟨⟨by simp, .inr ⟨x4.heap.size, 0, 2, rfl, hP5.lt, fun k xs hx j u hu => ?_⟩⟩, fun b o n c e => ?_⟩
        · refine (hP5.cell _).trans ?_
          match k with
          | 0 =>
            cases hx
            match j with
            | 0 => cases hu; rfl
            | 1 => cases hu; rfl
            | j + 2 => cases hu
          | 1 =>
            cases hx
            match j with
            | 0 => cases hu; rfl
            | 1 => cases hu; rfl
            | j + 2 => cases hu
          | k + 2 => cases hx
        · cases e
          exact ⟨by omega, by omega, by omega, hP5.lt⟩
      clear hOx hTx hs1 hDx hRx hOy hOw hP5 hC hR3 hD3 hT3 hO3 hsz
      go_wp2_with fail
      go_meet
      case rel => exact ⟨.slice (some ⟨x4.heap.size, 0, none⟩) 2 2, [(⟨#[73, 68, 95, 65]⟩, s1), (⟨#[83, 85, 66, 83, 89, 83, 84, 69, 77]⟩, ⟨#[98, 108, 111, 99, 107]⟩)], q0 + 3, by omega, Lib.hid (fun a ha => by
        simp only [List.mem_cons, List.not_mem_nil, or_false] at ha
        rcases ha with rfl | rfl
        · exact hs1'.out
        · exact (by decide : (5 : Nat) ≤ 100)), hPv, hR5, hD5, hT5, hO5⟩
  case rest =>
    clear hR3 hD3 hT3 hO3
    obtain ⟨pv, pl, q1, hq1, hpl, hPv, hR, hD, hT, hO⟩ := hcut
    have hC := Lib.hid (next_any B g q1 3 _ hT.out (by omega) (by omega) (by omega))
    go_wp2_with fail
    refine hC.out.mono ?_
    rintro e x5 ⟨⟨r2, hr2, rfl⟩, hTx, hOx⟩
    have hPv5 : Hid (PvOk x5 x5.heap.size g w.heap.size db pv pl) := ⟨hPv.out.1.only hOx fun b o n c e => (hPv.out.2 b o n c e).1, fun b o n c e => by have h1 := hPv.out.2 b o n c e; have h2 := hOx.size; exact ⟨h1.1, h1.2.1, h1.2.2.1, by omega⟩⟩
    have hR5 : Hid (Blk x5 w.heap.size 28 #[.slice none 0 0, .slice none 0 0, .slice none 0 0, .slice none 0 0, .slice none 0 0, .string ⟨#[]⟩, .int .i64 0, .string ⟨#[]⟩, .string ⟨#[]⟩, .int .i64 0, .string ⟨#[]⟩, .int .i64 0, .int .i64 0, .slice none 0 0]) := hR.out.only hOx (by omega)
    have hD5 : Hid (Blk x5 db 28 #[pv, .slice none 0 0, .slice none 0 0, .slice none 0 0, .slice none 0 0, .string ⟨#[]⟩, .int .i64 0, .string ⟨#[]⟩, .string ⟨#[]⟩, .int .i64 0, .string s0, .int .i64 0, .int .i64 0, .slice none 0 0]) := hD.out.only hOx (by omega)
    have hT5 := Lib.hid hTx
    have hO5 := Lib.hid (hO.out.trans hOx)
    clear hOx hTx hPv hR hD hT hO hC
    have hb5 := hD5.out.lt
    go_wp2_with fail
    go_loopg [4] r2 (fun gk s4 wr => ∃ (q : Nat) (tv : Value) (tl : List ByteArray), s4 = .int .i64 (gk : Nat) ∧ tl.length + gk ≤ 2 ∧ q ≤ q1 + 1 + tl.length ∧ Hid (∀ s ∈ tl, s.size ≤ 100) ∧ Hid (wr.ownsRow x5.heap.size 9 1 tv tl.length (flatS tl)) ∧ Hid (Blk wr db 28 #[pv, tv, .slice none 0 0, .slice none 0 0, .slice none 0 0, .string ⟨#[]⟩, .int .i64 0, .string ⟨#[]⟩, .string ⟨#[]⟩, .int .i64 0, .string s0, .int .i64 0, .int .i64 0, .slice none 0 0]) ∧ Hid (Tape wr B g q) ∧ Hid (Only (fun j => j = g ∨ j = db) x5 wr))
    case atStart => exact ⟨q1 + 1, .slice none 0 0, [], rfl, by simp; omega, by simp, (show ∀ s ∈ ([] : List ByteArray), s.size ≤ 100 from fun h hh => by cases hh), World.ownsRow_nil _ _ _ _, hD5, hT5, Only.refl _ _⟩
    case round =>
      obtain ⟨q, tv, tl, rfl, hlk, hq, hsm, hown, hD, hT, hO⟩ := hrel
      clear hD5 hT5
      by_cases hk0 : 0 < gk
      · have ik : (0 : Int) < (gk : Int) := by omega
        obtain ⟨hpg, hpd⟩ : g < x5.heap.size ∧ db < x5.heap.size := ⟨by omega, hb5⟩
        have hne : Hid (∀ j, tv.ownBlock = some j → x5.heap.size ≤ j) := fun j hj => (World.ownsRow.lt hown.out j hj).1
        have hC : Hid (Calls Try.prog 27 #[.pointer (some ⟨g, 0, none⟩), .slice (some ⟨wr.heap.size, 0, none⟩) 3 3] ((wr.alloc (.cells #[.string ⟨#[115, 101, 97, 116]⟩, .string ⟨#[120, 49]⟩, .string ⟨#[121]⟩] 9)).drew) fun e w' => (∃ s, s ∈ tD2 ∧ e = .returned (.string s)) ∧ Tape w' B g (q + 1) ∧ Only (fun j => j = g) wr.drew w') := one_new B g q 3 3 tD2 wr.drew (tape_drew hT.out) (by omega) rfl (by omega) (by omega)
        have hdbr := hD.out.lt
        have c1 := hD.out.cell 1
        have f1 := hD.out.frozen 1
        simp only [List.getElem?_toArray, List.getElem?_cons_zero, List.getElem?_cons_succ] at c1
        have hcy : Hid (∀ y, Only (fun j => j = g) wr.drew y → y.cell? ⟨db, 1, none⟩ = some tv) := fun y h => (World.cell?_of_block (h.block db hdbr (by omega))).trans c1
        have hzy : Hid (∀ y, Only (fun j => j = g) wr.drew y → db < y.heap.size) := fun y h => Nat.lt_of_lt_of_le hdbr h.size
        have hfy : Hid (∀ y o z, Only (fun j => j = g) wr.drew y → (y.alloc o).grownBy z tv.ownBlock → z.cell? ⟨db, 1, none⟩ = some tv ∧ z.frozen? ⟨db, 1, none⟩ = false) := fun y o z h hg => by
          have h1 : Only (fun j => tv.ownBlock = some j) y z := ((Only.refl _ _).alloc _).grown hg fun j hj => .inl hj
          have h2 := (Blk.only (Blk.only (S := fun j => j = g) (w := wr.drew) hD.out h (by omega)) h1 (fun e => by have := hne.out _ e; omega))
          exact ⟨h2.cell 1, h2.frozen 1⟩
        have hownA : Hid (∀ y o, Only (fun j => j = g) wr.drew y → (y.alloc o).ownsRow x5.heap.size 9 1 tv tl.length (flatS tl)) := fun y o h => own_only hown.out ((Only.refl _ wr).drew.trans (h.alloc o)) fun j hj e => by have := hne.out j hj; omega
        have hbse : Hid (∀ y o, Only (fun j => j = g) wr.drew y → x5.heap.size ≤ (y.alloc o).heap.size) := fun y o h => by
          have h1 := (h.alloc o).size
          have h2 := hO.out.size
          have h3 : wr.drew.heap.size = wr.heap.size := rfl
          omega
        have hm63 : tl.length + 1 ≤ maxLen := by simp only [maxLen]; omega
        have hmby : (tl.length + 1) * 16 ≤ 140737488355328 := by omega
        go_upto_block 1 with fail
        go_cut [] (fun wc => ∃ (v2 : Value) (s1 : ByteArray), Hid (s1.size ≤ 100) ∧ Hid (wc.ownsRow x5.heap.size 9 1 v2 (tl.length + 1) (flatS tl ++ [.string s1])) ∧ Hid (Blk wc db 28 #[pv, v2, .slice none 0 0, .slice none 0 0, .slice none 0 0, .string ⟨#[]⟩, .int .i64 0, .string ⟨#[]⟩, .string ⟨#[]⟩, .int .i64 0, .string s0, .int .i64 0, .int .i64 0, .slice none 0 0]) ∧ Hid (Tape wc B g (q + 1)) ∧ Hid (Only (fun j => j = g ∨ j = db) x5 wc))
        case first =>
          go_upto_region 7 with fail
          go_region_law (first | (refine step_append_lies _ (by rfl) (.tmp 26) (.tmp 30) 25 (by rfl) x5.heap.size 9 i0 (.string ⟨#[]⟩) 1 16 Try.underlying25 hi0'.out hz0'.out hz1'.out hz2'.out rfl (by decide) tv tl.length (flatS tl) (by simp [Act.eval]) (hownA.out _ _ hOy) ⟨y1.heap.size, 0, none⟩ 1 1 [.string s1] (by simp [Act.eval]) rfl (cell_one_new _ _ _) (by intro u hu; simp at hu; subst hu; rfl) (by decide) hm63 hmby (hbse.out _ _ hOy) _ rfl ?_; intro gg cap2 w4 hown4 hgrow hat hlt1; have qz := hfy.out y1 _ w4 hOy hgrow; have q1 := qz.1; have q2 := qz.2) | (go_simp; go_at_call 27; refine hC.out.mono ?_; rintro e y1 ⟨⟨s1, hs1, rfl⟩, hTy, hOy⟩; have cy := hcy.out y1 hOy; have zy := hzy.out y1 hOy))
          all_goals
            have hfin := draft_tag (v2 := .slice (some ⟨gg, 0, none⟩) (tl.length + 1) cap2) hD.out hO.out hTy hOy hown4 hgrow hne.out (fun j hj => (World.ownsRow.lt hown4 j hj).1) hpg hpd hgd hBg
            have e1 := Lib.hid hfin.1
            have e2 := Lib.hid hfin.2.1
            have e3 := Lib.hid hfin.2.2.1
            have e4 := Lib.hid hfin.2.2.2
            have e5 := Lib.hid (sml_mem (L := tD2) rfl hs1)
            clear hfin hown4 hgrow hat hlt1 q1 q2 cy zy hs1
            go_wp2_with fail
            go_meet
            case rel => exact ⟨_, s1, e5, e1, e2, e3, e4⟩
        case rest =>
          clear hT hD hown hO c1 f1 hC hcy hzy hfy hownA hbse hne
          obtain ⟨v2, s1, hs1, hown, hD, hT, hO⟩ := hcut
          go_wp2_with fail
          go_roundg (gk - 1)
          case measure => omega
          case rel => exact ⟨q + 1, v2, tl ++ [s1], by go_num, by simp; omega, by simp; omega, Lib.hid (fun s hs => by
            rcases List.mem_append.1 hs with h | h
            · exact hsm.out s h
            · rw [List.mem_singleton.1 h]; exact hs1.out), Lib.hid (by rw [List.length_append]; unfold flatS; rw [List.map_append]; exact hown.out), hD, hT, hO⟩
      · obtain rfl : gk = 0 := by omega
        have hpg : g < x5.heap.size := by omega
        have hR : Hid (Blk wr w.heap.size 28 #[.slice none 0 0, .slice none 0 0, .slice none 0 0, .slice none 0 0, .slice none 0 0, .string ⟨#[]⟩, .int .i64 0, .string ⟨#[]⟩, .string ⟨#[]⟩, .int .i64 0, .string ⟨#[]⟩, .int .i64 0, .int .i64 0, .slice none 0 0]) := hR5.out.only hO.out (by omega)
        have hOw : Only (fun j => j = w.heap.size) wr (wr.setRow w.heap.size #[pv, tv, .slice none 0 0, .slice none 0 0, .slice none 0 0, .string ⟨#[]⟩, .int .i64 0, .string ⟨#[]⟩, .string ⟨#[]⟩, .int .i64 0, .string s0, .int .i64 0, .int .i64 0, .slice none 0 0]) := Only.setRow (S := fun j => j = w.heap.size) (Only.refl _ _) (g := w.heap.size) (.inl rfl) _
        have hne : ∀ j, tv.ownBlock = some j → x5.heap.size ≤ j := fun j hj => (World.ownsRow.lt hown.out j hj).1
        have hown2 := own_only hown.out hOw (fun j hj e => by have := hne j hj; omega)
        have hPw : RowAt (wr.setRow w.heap.size #[pv, tv, .slice none 0 0, .slice none 0 0, .slice none 0 0, .string ⟨#[]⟩, .int .i64 0, .string ⟨#[]⟩, .string ⟨#[]⟩, .int .i64 0, .string s0, .int .i64 0, .int .i64 0, .slice none 0 0]) pv 2 (pl.map attC) := by
          refine (hPv5.out.1.same hO.out.size fun b o n c e => ?_).same hOw.size fun b o n c e => ?_
          · have h := hPv5.out.2 b o n c e
            exact hO.out.block b h.2.2.2 (by omega)
          · have h := hPv5.out.2 b o n c e
            exact hOw.block b (by have := hO.out.size; omega) h.2.1
        have hE : Hid (DftAt (wr.setRow w.heap.size #[pv, tv, .slice none 0 0, .slice none 0 0, .slice none 0 0, .string ⟨#[]⟩, .int .i64 0, .string ⟨#[]⟩, .string ⟨#[]⟩, .int .i64 0, .string s0, .int .i64 0, .int .i64 0, .slice none 0 0]) (mkDft s0 pv tv pl tl)) := ⟨hPw, row_own (l := tl.map fun s => [.string s]) (by rw [List.length_map]; exact hown2) (by unfold flatS; clear hown2 hown hlk hq hsm; induction tl with
          | nil => rfl
          | cons a l ih => simp [ih]) (fun x hx => by
            obtain ⟨y, _, rfl⟩ := List.mem_map.1 hx
            rfl) (by omega) (by rw [List.length_map]; omega)⟩
        have hE2 : Hid (Tape (wr.setRow w.heap.size #[pv, tv, .slice none 0 0, .slice none 0 0, .slice none 0 0, .string ⟨#[]⟩, .int .i64 0, .string ⟨#[]⟩, .string ⟨#[]⟩, .int .i64 0, .string s0, .int .i64 0, .int .i64 0, .slice none 0 0]) B g q) := hT.out.only hOw (by omega) (fun j e => by omega)
        have hE3 : Hid (Only (fun j => j = g) w (wr.setRow w.heap.size #[pv, tv, .slice none 0 0, .slice none 0 0, .slice none 0 0, .string ⟨#[]⟩, .int .i64 0, .string ⟨#[]⟩, .string ⟨#[]⟩, .int .i64 0, .string s0, .int .i64 0, .int .i64 0, .slice none 0 0])) := (hO5.out.step hO.out (fun i e => by have := hO5.out.size; omega)).step hOw (fun i e => .inr (by omega))
        have hE4 : Hid (Blk (wr.setRow w.heap.size #[pv, tv, .slice none 0 0, .slice none 0 0, .slice none 0 0, .string ⟨#[]⟩, .int .i64 0, .string ⟨#[]⟩, .string ⟨#[]⟩, .int .i64 0, .string s0, .int .i64 0, .int .i64 0, .slice none 0 0]) w.heap.size 28 #[pv, tv, .slice none 0 0, .slice none 0 0, .slice none 0 0, .string ⟨#[]⟩, .int .i64 0, .string ⟨#[]⟩, .string ⟨#[]⟩, .int .i64 0, .string s0, .int .i64 0, .int .i64 0, .slice none 0 0]) := hR.out.row _
        have hfit : Hid (DftFit (mkDft s0 pv tv pl tl)) := ⟨by have := hs0'.out; show s0.size ≤ _; omega, fun a ha => by have := hpl.out a ha; omega, fun s hs => by have := hsm.out s hs; omega⟩
        have hoff : Hid (DftOff g (mkDft s0 pv tv pl tl)) := ⟨fun b o n c e => (hPv5.out.2 b o n c e).1, off_own hown.out (by omega)⟩
        have o1 : pv.oneCell' = true := by rcases hPv5.out.1.2 with ⟨rfl, _⟩ | ⟨_, _, _, rfl, _⟩ <;> rfl
        have o2 : tv.oneCell' = true := by rcases hown.out.2 with ⟨rfl, _⟩ | ⟨_, _, _, rfl, _⟩ <;> rfl
        have hone : (#[pv, tv, .slice none 0 0, .slice none 0 0, .slice none 0 0, .string ⟨#[]⟩, .int .i64 0, .string ⟨#[]⟩, .string ⟨#[]⟩, .int .i64 0, .string s0, .int .i64 0, .int .i64 0, .slice none 0 0] : Array Value).all (·.oneCell') = true := by simp [Value.oneCell']; exact ⟨o1, o2⟩
        clear hown hT hO hOw hown2 hPw
        go_wp2_with (first
          | (refine wpList_load_row rfl 28 (.tmp 3) rfl db rfl 28 _ (0, 0) _ hD.out Try.underlying28 rfl rfl ?_)
          | (refine wpList_store_row rfl 28 (.tmp 2) (.tmp 33) rfl w.heap.size #[pv, tv, .slice none 0 0, .slice none 0 0, .slice none 0 0, .string ⟨#[]⟩, .int .i64 0, .string ⟨#[]⟩, .string ⟨#[]⟩, .int .i64 0, .string s0, .int .i64 0, .int .i64 0, .slice none 0 0] rfl rfl 28 #[.slice none 0 0, .slice none 0 0, .slice none 0 0, .slice none 0 0, .slice none 0 0, .string ⟨#[]⟩, .int .i64 0, .string ⟨#[]⟩, .string ⟨#[]⟩, .int .i64 0, .string ⟨#[]⟩, .int .i64 0, .int .i64 0, .slice none 0 0] hR.out rfl rfl hone ?_))
        exact bodyPost_ret (results_cell_row rfl _ _ w.heap.size 28 _ (0, 0) _ rfl hE4.out Try.underlying28 rfl (by kernel_rfl)) rfl ⟨mkDft s0 pv tv pl tl, q, rfl, by omega, rfl, hE.out, hfit.out, hoff.out, hE2.out, hE3.out⟩

end Go.Proofs.Ytfihccfjboopiaa
