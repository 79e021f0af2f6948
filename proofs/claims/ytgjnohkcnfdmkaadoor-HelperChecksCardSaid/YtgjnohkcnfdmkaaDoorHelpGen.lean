/-
  THE WALKS of the makers: coldpluglaw14.command, coldplugworld.Helpers.
-/
import Derived.Test.YtgjnohkcnfdmkaaDoorTape
import Derived.Test.YtgjnohkcnfdmkaaDoorHelpCall
import Derived.Deep.AppendLies
namespace Go.Proofs.YtgjnohkcnfdmkaaDoor
open Go.RowKit

def cmdL : List ByteArray := [⟨#[112, 114, 111, 98, 101, 32, 115, 100, 97]⟩, ⟨#[112, 114, 111, 98, 101, 32, 101, 116, 104, 48]⟩, ⟨#[115, 99, 97, 110, 32, 49]⟩, ⟨#[115, 99, 97, 110, 32, 50, 50]⟩, ⟨#[101, 110, 118]⟩, ⟨#[115, 108, 111, 119]⟩, ⟨#[97, 99, 116, 32, 120]⟩, ⟨#[108, 111, 103]⟩, ⟨#[110, 111, 110, 101]⟩, ⟨#[]⟩]
theorem cmdL_size : ∀ s ∈ cmdL, s.size ≤ 100 := by decide

set_option maxHeartbeats 1000000 in
theorem command_any (B g k : Nat) (w : World) (hT : Tape w B g k) (hk : k ≤ 1000000) :
    Calls Tryd.prog 11 #[.pointer (some ⟨g, 0, none⟩)] w fun e w' => (∃ s : ByteArray, s.size ≤ 100 ∧ e = .returned (.string s)) ∧ Tape w' B g (k + 1) ∧ Only (fun j => j = g) w w' := by
  have hlt : g < w.heap.size := hT.lt.2
  have hT' := Lib.hid hT; clear hT
  go_enter Tryd.func11, Tryd.ntmps11
  go_wp2_with fail
  have hB : Blk (w.alloc (.cells (cmdL.map Value.string).toArray 9)) w.heap.size 9 (cmdL.map Value.string).toArray := Blk.new _ _ _
  refine (one_tape B g k w.heap.size 10 _ cmdL _ (hT'.out.below ((Below.refl _ _).alloc (Nat.le_refl _) _)) hk (by omega) (by omega) (by omega) (by simp) rfl (fun i s hs => ?_)).mono ?_
  · refine (hB.cell i).trans ?_
    simp [hs]
  rintro e v1 ⟨⟨s, hs, rfl⟩, hT1, hO⟩
  have h2 := Lib.hid (cmdL_size s hs)
  have hT1' := Lib.hid hT1
  have hO' := Lib.hid (((Only.refl (fun j => j = g) w).alloc _).trans hO)
  clear hT1 hO hs hB
  go_wp2_with fail
  go_ret
  exact ⟨⟨s, h2.out, rfl⟩, hT1'.out, hO'.out⟩

def allH : List Hp := [⟨⟨#[112, 114, 111, 98, 101, 32, 115, 100, 42]⟩, ⟨#[111, 110, 101, 32, 116, 119, 111, 59, 73, 68, 95, 65, 61, 49, 59, 73, 68, 95, 66, 61, 120, 32, 121]⟩, false, 2⟩, ⟨⟨#[112, 114, 111, 98, 101, 32, 42]⟩, ⟨#[73, 68, 95, 65, 61, 55]⟩, true, 1⟩, ⟨⟨#[115, 99, 97, 110, 32, 63]⟩, ⟨#[73, 68, 95, 70, 83, 95, 85, 85, 73, 68, 61, 117, 57, 59, 68, 82, 73, 86, 69, 82, 61, 110, 111, 59, 98, 97, 100]⟩, false, 3⟩, ⟨⟨#[101, 110, 118]⟩, ⟨#[73, 68, 95, 66, 61, 50, 59, 73, 68, 95, 67, 61, 51]⟩, false, 0⟩, ⟨⟨#[115, 108, 111, 119, 42]⟩, ⟨#[108, 97, 116, 101]⟩, false, 50⟩, ⟨⟨#[97, 99, 116, 32, 42, 124, 108, 111, 103]⟩, ⟨#[100, 111, 110, 101]⟩, false, 1⟩]
theorem allH_good : ∀ h ∈ allH, h.cmd.size ≤ 100 ∧ h.out.size ≤ 100 ∧ 0 ≤ h.ticks ∧ h.ticks ≤ 60 := by decide
/-- A table in the call's own blocks from B on. -/
def HOwn (w : World) (B : Nat) (v : Value) (l : List Hp) : Prop := w.ownsRow B 40 4 v l.length (flatH l)
theorem HOwn.at {w : World} {B : Nat} {v : Value} {l : List Hp} (h : HOwn w B v l) (hl : l.length ≤ 1000000) : HelpersAt w v l := by
  refine ⟨hl, ?_⟩
  have h' : w.ownsRow B 40 4 v l.length (flatH l) := h
  rcases h'.2 with ⟨rfl, h0⟩ | ⟨g, cap, cur, rfl, _, hg, _⟩
  · exact .inl ⟨rfl, List.eq_nil_of_length_eq_zero h0⟩
  · refine .inr ⟨g, 0, cap, rfl, (Array.getElem?_eq_some_iff.1 hg).1, fun k x hx => ?_⟩
    have hk : k < l.length := (List.getElem?_eq_some_iff.1 hx).1
    obtain ⟨h0, h1, h2, h3⟩ := flatH_get l k x hx
    simp only [Nat.zero_add]
    exact ⟨(World.ownsRow.cellAt h' _ (by omega)).trans h0, (World.ownsRow.cellAt h' _ (by omega)).trans h1, (World.ownsRow.cellAt h' _ (by omega)).trans h2, (World.ownsRow.cellAt h' _ (by omega)).trans h3⟩
theorem info_helper : (Tryd.prog.info? 40).map (fun i => (i.zero, i.size, i.bytes)) = some (some (.agg #[.string ⟨#[]⟩, .string ⟨#[]⟩, .bool false, .int .i64 0]), 4, 48) := by kernel_rfl
theorem cell_four_new (w : World) (a b c d : Value) (t : TypeId) : ∀ (j : Nat) (u : Value), [a, b, c, d][j]? = some u → (w.alloc (.cells #[a, b, c, d] t)).cell? ((⟨w.heap.size, 0, none⟩ : Addr).add j) = some u := by
  intro j u h
  match j with
  | 0 => simp at h; subst h; simp [Addr.add]
  | 1 => simp at h; subst h; simp [Addr.add]
  | 2 => simp at h; subst h; simp [Addr.add]
  | 3 => simp at h; subst h; simp [Addr.add]
  | j + 4 => simp at h

set_option maxRecDepth 100000 in
set_option maxHeartbeats 2000000 in
theorem helpers_any (B g q0 : Nat) (w : World) (hT : Tape w B g q0) (hq0 : q0 ≤ 100000) :
    Calls Tryd.prog 10 #[.pointer (some ⟨g, 0, none⟩)] w fun e w' => ∃ (l : List Hp) (v : Value) (lim q : Nat), e = .returned (.tuple #[v, .int .i64 lim]) ∧ 1 ≤ lim ∧ lim ≤ 60 ∧ (∀ h ∈ l, h ∈ allH) ∧ l.length ≤ 6 ∧ q ≤ q0 + 7 ∧ HOwn w' (w.heap.size + 1) v l ∧ Tape w' B g q ∧ Only (fun j => j = g) w w' := by
  obtain ⟨i0, hi0, hz0, hz1, hz2⟩ := info_parts info_helper
  have hlt : g < w.heap.size := hT.lt.2
  have hBg : B ≤ g := hT.lt.1
  have hT' := Lib.hid hT; clear hT
  have hi0' := Lib.hid hi0; clear hi0
  have hz0' := Lib.hid hz0; clear hz0
  have hz1' := Lib.hid hz1; clear hz1
  have hz2' := Lib.hid hz2; clear hz2
  go_enter Tryd.func10, Tryd.ntmps10
  go_wp2_with fail
  have hB0 : Hid (Blk (w.alloc (.cells (flatH allH).toArray 40)) w.heap.size 40 (flatH allH).toArray) := Blk.new _ _ _
  have hT0 : Hid (Tape (w.alloc (.cells (flatH allH).toArray 40)) B g q0) := hT'.out.below ((Below.refl _ _).alloc (Nat.le_refl _) _)
  have hO0 : Hid (Only (fun j => j = g) w (w.alloc (.cells (flatH allH).toArray 40))) := (Only.refl _ _).alloc _
  go_loopw [5, 6] (fun s5 s6 wr => ∃ (k q : Nat) (acc : List Hp), s6 = .int .i64 k ∧ k ≤ 6 ∧ q ≤ q0 + k ∧ acc.length ≤ k ∧ Hid (∀ h ∈ acc, h ∈ allH) ∧ Hid (HOwn wr (w.heap.size + 1) s5 acc) ∧ Hid (Tape wr B g q) ∧ Hid (Blk wr w.heap.size 40 (flatH allH).toArray) ∧ Hid (Only (fun j => j = g) w wr)) (fun _ s6 _ => 6 - (intOf s6).toNat)
  case atStart => exact ⟨0, q0, [], rfl, by omega, by omega, by simp, (show ∀ h ∈ ([] : List Hp), h ∈ allH from fun h hh => by cases hh), World.ownsRow_nil _ _ _ _, hT0, hB0, hO0⟩
  case round =>
    obtain ⟨k, q, acc, rfl, hk, hq, hla, hin, hown, hT, hB, hO⟩ := hrel
    clear hB0 hT0 hO0
    by_cases hk6 : k < 6
    · have hN := next_any B g q 5 wr hT.out (by omega) (by omega) (by omega)
      have hN' := Lib.hid hN; clear hN
      obtain ⟨h, hh⟩ : ∃ h, allH[k]? = some h := ⟨_, List.getElem?_eq_getElem (by simpa [allH] using hk6)⟩
      have hmem := Lib.hid (List.mem_of_getElem? hh)
      obtain ⟨g0, g1, g2, g3⟩ := flatH_get allH k h hh
      clear hh
      have g0' := Lib.hid g0; clear g0
      have g1' := Lib.hid g1; clear g1
      have g2' := Lib.hid g2; clear g2
      have g3' := Lib.hid g3; clear g3
      go_wp2_with fail
      refine hN'.out.mono ?_
      rintro e v1 ⟨⟨r, hr, rfl⟩, hT1, hO1⟩
      have hB1 : Blk v1 w.heap.size 40 (flatH allH).toArray := hB.out.only hO1 (by omega)
      have hown1 : HOwn v1 (w.heap.size + 1) u5 acc := own_only hown.out hO1 fun j hj e => by have := (World.ownsRow.lt hown.out j hj).1; omega
      have hOw := Lib.hid (hO.out.trans hO1)
      have hT1' := Lib.hid hT1
      have hown1' := Lib.hid hown1
      have hz1s : w.heap.size + 1 ≤ v1.heap.size := hB1.lt
      have c0 := (hB1.cell (k * 4)).trans ((by simpa using g0'.out : (flatH allH).toArray[k * 4]? = _))
      have c1 := (hB1.cell (k * 4 + 1)).trans ((by simpa using g1'.out : (flatH allH).toArray[k * 4 + 1]? = _))
      have c2 := (hB1.cell (k * 4 + 2)).trans ((by simpa using g2'.out : (flatH allH).toArray[k * 4 + 2]? = _))
      have c3 := (hB1.cell (k * 4 + 3)).trans ((by simpa using g3'.out : (flatH allH).toArray[k * 4 + 3]? = _))
      have hB1' := Lib.hid hB1
      clear hT1 hO1 hown1 hB1 hN' hT hown hB hO g0' g1' g2' g3'
      by_cases hr0 : r = 0
      · subst hr0
        clear c0 c1 c2 c3
        go_wp2_with fail
        go_roundw
        case rel => exact ⟨k + 1, q + 1, acc, by go_num, by omega, by omega, by omega, hin, hown1', hT1', hB1', hOw⟩
        case measure => simp [intOf]; omega
      · have hr1 : (0 : Int) < (r : Int) := by omega
        obtain ⟨cm, ou, fa, ti⟩ := h
        simp only at c0 c1 c2 c3
        go_wp2_with (at_builtin; refine wpList_append_own _ rfl (.tmp 23) (.tmp 28) 27 rfl (w.heap.size + 1) 40 i0 (.agg #[.string ⟨#[]⟩, .string ⟨#[]⟩, .bool false, .int .i64 0]) 4 48 Tryd.underlying27 hi0'.out hz0'.out hz1'.out hz2'.out rfl (by decide) u5 acc.length (flatH acc) rfl (World.ownsRow.alloc hown1'.out _) ⟨v1.heap.size, 0, none⟩ 1 1 [.string cm, .string ou, .bool fa, .int .i64 ti] rfl rfl (cell_four_new _ _ _ _ _ _) (by intro u hu; simp at hu; rcases hu with rfl | rfl | rfl | rfl <;> rfl) (by simp only [maxLen]; omega) (by omega) (by simp; omega) ?_; intro v' w1 hown' hgrow _)
        go_roundw
        case rel =>
          have hne : ∀ j, u5.ownBlock = some j → w.heap.size + 1 ≤ j := fun j hj => (World.ownsRow.lt hown1'.out j hj).1
          have hOn : Only (fun j => j = g) w w1 := (hOw.out.alloc _).grown hgrow fun j hj => .inr (by have := hne j hj; omega)
          refine ⟨k + 1, q + 1, acc ++ [⟨cm, ou, fa, ti⟩], by go_num, by omega, by omega, by simp; omega, fun x hx => ?_, ?_, ?_, ?_, hOn⟩
          · rcases List.mem_append.1 hx with hx | hx
            · exact hin.out x hx
            · simp at hx; subst hx; exact hmem.out
          · unfold Hid HOwn
            rw [flatH_app, List.length_append]
            exact hown'
          · have hS : Only (fun j => u5.ownBlock = some j ∨ v1.heap.size ≤ j) v1 w1 := ((Only.refl _ _).alloc _).grown hgrow fun j hj => .inl (.inl hj)
            exact hT1'.out.only hS (fun e => by
              rcases e with e | e
              · have := hne _ e; omega
              · omega) (fun j hj => by
              rcases hj with e | e
              · have := hne _ e; omega
              · omega)
          · have hS : Only (fun j => u5.ownBlock = some j ∨ v1.heap.size ≤ j) v1 w1 := ((Only.refl _ _).alloc _).grown hgrow fun j hj => .inl (.inl hj)
            exact hB1'.out.only hS (fun e => by
              rcases e with e | e
              · have := hne _ e; omega
              · omega)
        case measure => simp [intOf]; omega
    · obtain rfl : k = 6 := by omega
      have hN := next_any B g q 60 wr hT.out (by omega) (by omega) (by omega)
      have hN' := Lib.hid hN; clear hN
      go_wp2_with fail
      refine hN'.out.mono ?_
      rintro e v1 ⟨⟨r, hr, rfl⟩, hT1, hO1⟩
      have hown1 : HOwn v1 (w.heap.size + 1) u5 acc := own_only hown.out hO1 fun j hj e => by have := (World.ownsRow.lt hown.out j hj).1; omega
      have hOw := Lib.hid (hO.out.trans hO1)
      have hT1' := Lib.hid hT1
      have hown1' := Lib.hid hown1
      clear hT1 hO1 hown1 hN' hT hown hB hO
      go_wp2_with fail
      go_ret2
      exact ⟨acc, u5, 1 + r, q + 1, by simp, by omega, by omega, hin.out, by omega, by omega, hown1'.out, hT1'.out, hOw.out⟩

end Go.Proofs.YtgjnohkcnfdmkaaDoor
