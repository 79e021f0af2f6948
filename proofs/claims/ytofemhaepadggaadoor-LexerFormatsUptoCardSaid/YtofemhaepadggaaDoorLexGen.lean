/-
  THE WALKS of coldpluglaw08.tokens: the maker of tokens.
-/
import Derived.Test.YtofemhaepadggaaDoorLexTape
import Derived.Test.YtofemhaepadggaaDoorLexTokens
namespace Go.Proofs.YtofemhaepadggaaDoor
open Go.RowKit

def gK : List ByteArray := [⟨#[75, 69, 82, 78, 69, 76]⟩, ⟨#[69, 78, 86]⟩, ⟨#[65]⟩]
def gN : List ByteArray := [⟨#[]⟩, ⟨#[73, 68]⟩, ⟨#[97, 46, 98]⟩]
def gO : List ByteArray := [⟨#[61, 61]⟩, ⟨#[33, 61]⟩, ⟨#[61]⟩, ⟨#[43, 61]⟩, ⟨#[45, 61]⟩, ⟨#[58, 61]⟩]
def gV : List ByteArray := [⟨#[]⟩, ⟨#[115, 100, 42]⟩, ⟨#[97, 32, 98]⟩, ⟨#[113, 34, 114]⟩, ⟨#[92, 34]⟩, ⟨#[97, 44, 98]⟩, ⟨#[37, 107]⟩, ⟨#[92, 120]⟩]
def gW0 : List ByteArray := [⟨#[]⟩, ⟨#[97]⟩, ⟨#[65, 49]⟩]
def gW1 : List ByteArray := [⟨#[123]⟩, ⟨#[97, 32, 98]⟩, ⟨#[34]⟩]
def gW2 : List ByteArray := [⟨#[]⟩, ⟨#[60]⟩, ⟨#[61, 61, 61]⟩]
def gW3 : List ByteArray := [⟨#[97, 92]⟩, ⟨#[9]⟩, ⟨#[127]⟩]
theorem gK_size : ∀ s ∈ gK, s.size ≤ 8 := by decide
theorem gN_size : ∀ s ∈ gN, s.size ≤ 8 := by decide
theorem gO_size : ∀ s ∈ gO, s.size ≤ 8 := by decide
theorem gV_size : ∀ s ∈ gV, s.size ≤ 8 := by decide
theorem gW0_size : ∀ s ∈ gW0, s.size ≤ 8 := by decide
theorem gW1_size : ∀ s ∈ gW1, s.size ≤ 8 := by decide
theorem gW2_size : ∀ s ∈ gW2, s.size ≤ 8 := by decide
theorem gW3_size : ∀ s ∈ gW3, s.size ≤ 8 := by decide
def InGen (x : TB) : Prop := x.k ∈ gK ∧ x.n ∈ gN ∧ x.o ∈ gO ∧ x.v ∈ gV
def Small (x : TB) : Prop := x.k.size ≤ 8 ∧ x.n.size ≤ 8 ∧ x.o.size ≤ 8 ∧ x.v.size ≤ 8
theorem InGen.small {x : TB} (h : InGen x) : Small x := ⟨gK_size _ h.1, gN_size _ h.2.1, gO_size _ h.2.2.1, gV_size _ h.2.2.2⟩

theorem one_new (B g k n c : Nat) (L : List ByteArray) (W : World) (hT : Tape W B g k) (hk : k ≤ 1000000) (hlen : L.length = n) (hn : 1 ≤ n) (hn2 : n ≤ 1000) :
    Calls Tryd.prog 11 #[.pointer (some ⟨g, 0, none⟩), .slice (some ⟨W.heap.size, 0, none⟩) n c] (W.alloc (.cells (L.map Value.string).toArray 9)) fun e w' => (∃ s, s ∈ L ∧ e = .returned (.string s)) ∧ Tape w' B g (k + 1) ∧ Only (fun j => j = g) W w' := by
  have hB : Blk (W.alloc (.cells (L.map Value.string).toArray 9)) W.heap.size 9 (L.map Value.string).toArray := Blk.new _ _ _
  have hlt := hT.lt.2
  refine (one_tape B g k W.heap.size n c L _ (hT.below ((Below.refl _ _).alloc (Nat.le_refl _) _)) hk hn (by omega) (by omega) (by simp) hlen (fun i s hs => ?_)).mono ?_
  · refine (hB.cell i).trans ?_
    simp [hs]
  rintro e v1 ⟨hs, hT1, hO⟩
  exact ⟨hs, hT1, ((Only.refl (fun j => j = g) W).alloc _).trans hO⟩

set_option maxRecDepth 100000 in
set_option maxHeartbeats 4000000 in
theorem gtokens_any (B g q0 : Nat) (b : Bool) (w : World) (hT : Tape w B g q0) (hq0 : q0 ≤ 100000) :
    Calls Tryd.prog 10 #[.pointer (some ⟨g, 0, none⟩), .bool b] w fun e w' => ∃ (l : List TB) (v : Value) (q : Nat), e = .returned v ∧ l.length ≤ 4 ∧ (∀ x ∈ l, Small x) ∧ (b = false → ∀ x ∈ l, InGen x) ∧ q ≤ q0 + 30 ∧ Toks w' w.heap.size v l ∧ Tape w' B g q ∧ Only (fun j => j = g) w w' := by
  obtain ⟨i0, hi0, hz0, hz1, hz2⟩ := info_parts info_tok
  have hlt : g < w.heap.size := hT.lt.2
  have hBg : B ≤ g := hT.lt.1
  have hT' := Lib.hid hT; clear hT
  have hi0' := Lib.hid hi0; clear hi0
  have hz0' := Lib.hid hz0; clear hz0
  have hz1' := Lib.hid hz1; clear hz1
  have hz2' := Lib.hid hz2; clear hz2
  have hN' := Lib.hid (next_any B g q0 5 w hT'.out (by omega) (by omega) (by omega))
  go_enter Tryd.func10, Tryd.ntmps10
  go_wp2_with fail
  refine hN'.out.mono ?_
  rintro e v1 ⟨⟨r, hr, rfl⟩, hT1, hO1⟩
  have hT1' := Lib.hid hT1
  have hO1' := Lib.hid hO1
  clear hT1 hO1 hN' hT'
  go_wp2_with fail
  go_loopw [5, 6] (fun s5 s6 wr => ∃ (k q : Nat) (acc : List TB), s6 = .int .i64 k ∧ acc.length + k ≤ 4 ∧ q ≤ q0 + 1 + 6 * acc.length ∧ Hid (∀ x ∈ acc, Small x) ∧ Hid (b = false → ∀ x ∈ acc, InGen x) ∧ Hid (Toks wr w.heap.size s5 acc) ∧ Hid (Tape wr B g q) ∧ Hid (Only (fun j => j = g) w wr)) (fun _ s6 _ => (intOf s6).toNat)
  case atStart => exact ⟨r, q0 + 1, [], rfl, by simp; omega, by simp, (show ∀ x ∈ ([] : List TB), Small x from fun h hh => by cases hh), (show b = false → ∀ x ∈ ([] : List TB), InGen x from fun _ h hh => by cases hh), World.ownsRow_nil _ _ _ _, hT1', hO1'⟩
  case round =>
    clear hT1' hO1'
    obtain ⟨k, q, acc, rfl, hk, hq, hsm, hin, hown, hT, hO⟩ := hrel
    by_cases hk0 : 0 < k
    · have ik : (0 : Int) < (k : Int) := by omega
      have hwr : w.heap.size ≤ wr.heap.size := hO.out.size
      have hnb : ∀ j, u5.ownBlock = some j → w.heap.size ≤ j := fun j hj => (World.ownsRow.lt hown.out j hj).1
      have hnb' := Lib.hid hnb; clear hnb
      have hC1 := Lib.hid (one_new B g (q) 3 3 gK wr hT.out (by omega) rfl (by omega) (by omega))
      go_wp2_with fail
      refine hC1.out.mono ?_
      rintro e x1 ⟨⟨s1, hs1, rfl⟩, hTx, hOx⟩
      have hs1' := Lib.hid hs1
      have hT1 := Lib.hid hTx
      have hO1 := Lib.hid (hO.out.trans hOx)
      have hown1 : Hid (Toks x1 w.heap.size u5 acc) := own_only hown.out hOx fun j hj e => by have := hnb'.out j hj; omega
      have hz1s : w.heap.size ≤ x1.heap.size := hO1.out.size
      clear hTx hOx hs1 hT hown hO hC1
      have hC2 := Lib.hid (one_new B g (q + 1) 3 3 gN x1 hT1.out (by omega) rfl (by omega) (by omega))
      go_wp2_with fail
      refine hC2.out.mono ?_
      rintro e x2 ⟨⟨s2, hs2, rfl⟩, hTx, hOx⟩
      have hs2' := Lib.hid hs2
      have hT2 := Lib.hid hTx
      have hO2 := Lib.hid (hO1.out.trans hOx)
      have hown2 : Hid (Toks x2 w.heap.size u5 acc) := own_only hown1.out hOx fun j hj e => by have := hnb'.out j hj; omega
      have hz2s : w.heap.size ≤ x2.heap.size := hO2.out.size
      clear hTx hOx hs2 hT1 hown1 hO1 hC2
      have hC3 := Lib.hid (one_new B g (q + 1 + 1) 6 6 gO x2 hT2.out (by omega) rfl (by omega) (by omega))
      go_wp2_with fail
      refine hC3.out.mono ?_
      rintro e x3 ⟨⟨s3, hs3, rfl⟩, hTx, hOx⟩
      have hs3' := Lib.hid hs3
      have hT3 := Lib.hid hTx
      have hO3 := Lib.hid (hO2.out.trans hOx)
      have hown3 : Hid (Toks x3 w.heap.size u5 acc) := own_only hown2.out hOx fun j hj e => by have := hnb'.out j hj; omega
      have hz3s : w.heap.size ≤ x3.heap.size := hO3.out.size
      clear hTx hOx hs3 hT2 hown2 hO2 hC3
      have hC4 := Lib.hid (one_new B g (q + 1 + 1 + 1) 8 8 gV x3 hT3.out (by omega) rfl (by omega) (by omega))
      go_wp2_with fail
      refine hC4.out.mono ?_
      rintro e x4 ⟨⟨s4, hs4, rfl⟩, hTx, hOx⟩
      have hs4' := Lib.hid hs4
      have hT4 := Lib.hid hTx
      have hO4 := Lib.hid (hO3.out.trans hOx)
      have hown4 : Hid (Toks x4 w.heap.size u5 acc) := own_only hown3.out hOx fun j hj e => by have := hnb'.out j hj; omega
      have hz4s : w.heap.size ≤ x4.heap.size := hO4.out.size
      clear hTx hOx hs4 hT3 hown3 hO3 hC4
      have hX0 : Hid (Blk (x4.alloc (.cells (tokC s1 s2 s3 s4) 40)) x4.heap.size 40 (tokC s1 s2 s3 s4)) := Blk.new _ _ _
      have hO5 : Hid (Only (fun j => j = g) w (x4.alloc (.cells (tokC s1 s2 s3 s4) 40))) := hO4.out.alloc _
      have hT5 : Hid (Tape (x4.alloc (.cells (tokC s1 s2 s3 s4) 40)) B g (q + 1 + 1 + 1 + 1)) := hT4.out.below ((Below.refl _ _).alloc (Nat.le_refl _) _)
      have hown5 : Hid (Toks (x4.alloc (.cells (tokC s1 s2 s3 s4) 40)) w.heap.size u5 acc) := own_below hown4.out ((Below.refl _ _).alloc (Nat.le_refl _) _)
      have hgx : Hid (g < x4.heap.size) := hT4.out.lt.2
      have hux : Hid (∀ j, u5.ownBlock = some j → j < x4.heap.size) := fun j hj => (World.ownsRow.lt hown4.out j hj).2
      obtain ⟨xb, hxb⟩ : ∃ xb, x4.heap.size = xb := ⟨_, rfl⟩
      rw [hxb] at hX0 hgx hux hz4s
      clear hT4 hO4 hown4
      unfold tokC at hX0 hO5 hT5 hown5
      go_upto_if 27 with fail
      generalize x4.alloc (.cells #[.string s1, .string s2, .string s3, .string s4] 40) = x5 at *
      clear hxb
      go_cut [] (fun wc => ∃ (x : TB) (q2 : Nat), q2 ≤ q + 6 ∧ Hid (Small x ∧ (b = false → InGen x)) ∧ Hid (Blk wc xb 40 (tokC x.k x.n x.o x.v)) ∧ Hid (Toks wc w.heap.size u5 acc) ∧ Hid (Tape wc B g q2) ∧ Hid (Only (fun j => j = g) w wc))
      case first =>
        cases b with
        | false =>
          go_wp2_with fail
          go_meet
          case rel => exact ⟨⟨s1, s2, s3, s4⟩, q + 1 + 1 + 1 + 1, by omega, ⟨InGen.small (x := ⟨s1, s2, s3, s4⟩) ⟨hs1'.out, hs2'.out, hs3'.out, hs4'.out⟩, fun _ => ⟨hs1'.out, hs2'.out, hs3'.out, hs4'.out⟩⟩, hX0, hown5, hT5, hO5⟩
        | true =>
          have hsml : Small ⟨s1, s2, s3, s4⟩ := InGen.small (x := ⟨s1, s2, s3, s4⟩) ⟨hs1'.out, hs2'.out, hs3'.out, hs4'.out⟩
          have hsml' := Lib.hid hsml; clear hsml
          have hN := Lib.hid (next_any B g (q + 1 + 1 + 1 + 1) 12 x5 hT5.out (by omega) (by omega) (by omega))
          go_wp2_with fail
          refine hN.out.mono ?_
          rintro e x6 ⟨⟨z, hz, rfl⟩, hTx, hOx⟩
          have hT6 := Lib.hid hTx
          have hO6 := Lib.hid (hO5.out.trans hOx)
          have hown6 : Hid (Toks x6 w.heap.size u5 acc) := own_only hown5.out hOx fun j hj e => by have := hnb'.out j hj; omega
          have hX6 : Hid (Blk x6 xb 40 (tokC s1 s2 s3 s4)) := hX0.out.only hOx (fun e => by have e : xb = g := e; have := hgx.out; omega)
          clear hTx hOx hT5 hown5 hO5 hX0 hN
          by_cases z0 : z = 0
          · subst z0
            have hC := Lib.hid (one_new B g (q + 1 + 1 + 1 + 1 + 1) 3 3 gW0 x6 hT6.out (by omega) rfl (by omega) (by omega))
            go_wp2_with fail
            refine hC.out.mono ?_
            rintro e x7 ⟨⟨s5, hs5, rfl⟩, hTx, hOx⟩
            have hs5' := Lib.hid (gW0_size s5 hs5)
            have hX7 := hX6.out.only hOx (fun e => by have e : xb = g := e; have := hgx.out; omega)
            have c0 := hX7.cell 0
            have f0 := hX7.frozen 0
            simp only [tokC, List.getElem?_toArray, List.getElem?_cons_zero] at c0
            have hX8 : Hid (Blk (x7.setCell ⟨xb, 0, none⟩ (.string s5)) xb 40 (tokC s5 s2 s3 s4)) := hX7.store 0 _
            have hOw : Only (fun j => j = xb) x7 (x7.setCell ⟨xb, 0, none⟩ (.string s5)) := Only.setCell (S := fun j => j = xb) (Only.refl _ _) (p := ⟨xb, 0, none⟩) (.inl rfl) _
            have hT8 : Hid (Tape (x7.setCell ⟨xb, 0, none⟩ (.string s5)) B g (q + 1 + 1 + 1 + 1 + 1 + 1)) := hTx.only hOw (fun e => by have e : g = xb := e; have := hgx.out; omega) (fun j e => by have e : j = xb := e; have := hgx.out; omega)
            have hO8 : Hid (Only (fun j => j = g) w (x7.setCell ⟨xb, 0, none⟩ (.string s5))) := (hO6.out.trans hOx).setCell (p := ⟨xb, 0, none⟩) (.inr hz4s) _
            have hown8 : Hid (Toks (x7.setCell ⟨xb, 0, none⟩ (.string s5)) w.heap.size u5 acc) := own_only (own_only hown6.out hOx fun j hj e => by have := hnb'.out j hj; omega) hOw fun j hj e => by have e : j = xb := e; have := hux.out j hj; omega
            clear hTx hOx hs5 hX7 hOw hT6 hO6 hown6 hX6 hC
            go_wp2_with fail
            go_meet
            case rel => exact ⟨⟨s5, s2, s3, s4⟩, q + 1 + 1 + 1 + 1 + 1 + 1, by omega, ⟨⟨hs5'.out, hsml'.out.2.1, hsml'.out.2.2.1, hsml'.out.2.2.2⟩, fun h => by cases h⟩, hX8, hown8, hT8, hO8⟩
          · have iz0 : ¬ (z : Int) = 0 := by omega
            by_cases z1 : z = 1
            · subst z1
              have hC := Lib.hid (one_new B g (q + 1 + 1 + 1 + 1 + 1) 3 3 gW1 x6 hT6.out (by omega) rfl (by omega) (by omega))
              go_wp2_with fail
              refine hC.out.mono ?_
              rintro e x7 ⟨⟨s5, hs5, rfl⟩, hTx, hOx⟩
              have hs5' := Lib.hid (gW1_size s5 hs5)
              have hX7 := hX6.out.only hOx (fun e => by have e : xb = g := e; have := hgx.out; omega)
              have c1 := hX7.cell 1
              have f1 := hX7.frozen 1
              simp only [tokC, List.getElem?_toArray, List.getElem?_cons_zero, List.getElem?_cons_succ] at c1
              have hX8 : Hid (Blk (x7.setCell ⟨xb, 1, none⟩ (.string s5)) xb 40 (tokC s1 s5 s3 s4)) := hX7.store 1 _
              have hOw : Only (fun j => j = xb) x7 (x7.setCell ⟨xb, 1, none⟩ (.string s5)) := Only.setCell (S := fun j => j = xb) (Only.refl _ _) (p := ⟨xb, 1, none⟩) (.inl rfl) _
              have hT8 : Hid (Tape (x7.setCell ⟨xb, 1, none⟩ (.string s5)) B g (q + 1 + 1 + 1 + 1 + 1 + 1)) := hTx.only hOw (fun e => by have e : g = xb := e; have := hgx.out; omega) (fun j e => by have e : j = xb := e; have := hgx.out; omega)
              have hO8 : Hid (Only (fun j => j = g) w (x7.setCell ⟨xb, 1, none⟩ (.string s5))) := (hO6.out.trans hOx).setCell (p := ⟨xb, 1, none⟩) (.inr hz4s) _
              have hown8 : Hid (Toks (x7.setCell ⟨xb, 1, none⟩ (.string s5)) w.heap.size u5 acc) := own_only (own_only hown6.out hOx fun j hj e => by have := hnb'.out j hj; omega) hOw fun j hj e => by have e : j = xb := e; have := hux.out j hj; omega
              clear hTx hOx hs5 hX7 hOw hT6 hO6 hown6 hX6 hC
              go_wp2_with fail
              go_meet
              case rel => exact ⟨⟨s1, s5, s3, s4⟩, q + 1 + 1 + 1 + 1 + 1 + 1, by omega, ⟨⟨hsml'.out.1, hs5'.out, hsml'.out.2.2.1, hsml'.out.2.2.2⟩, fun h => by cases h⟩, hX8, hown8, hT8, hO8⟩
            · have iz1 : ¬ (z : Int) = 1 := by omega
              by_cases z2 : z = 2
              · subst z2
                have hC := Lib.hid (one_new B g (q + 1 + 1 + 1 + 1 + 1) 3 3 gW2 x6 hT6.out (by omega) rfl (by omega) (by omega))
                go_wp2_with fail
                refine hC.out.mono ?_
                rintro e x7 ⟨⟨s5, hs5, rfl⟩, hTx, hOx⟩
                have hs5' := Lib.hid (gW2_size s5 hs5)
                have hX7 := hX6.out.only hOx (fun e => by have e : xb = g := e; have := hgx.out; omega)
                have c2 := hX7.cell 2
                have f2 := hX7.frozen 2
                simp only [tokC, List.getElem?_toArray, List.getElem?_cons_zero, List.getElem?_cons_succ] at c2
                have hX8 : Hid (Blk (x7.setCell ⟨xb, 2, none⟩ (.string s5)) xb 40 (tokC s1 s2 s5 s4)) := hX7.store 2 _
                have hOw : Only (fun j => j = xb) x7 (x7.setCell ⟨xb, 2, none⟩ (.string s5)) := Only.setCell (S := fun j => j = xb) (Only.refl _ _) (p := ⟨xb, 2, none⟩) (.inl rfl) _
                have hT8 : Hid (Tape (x7.setCell ⟨xb, 2, none⟩ (.string s5)) B g (q + 1 + 1 + 1 + 1 + 1 + 1)) := hTx.only hOw (fun e => by have e : g = xb := e; have := hgx.out; omega) (fun j e => by have e : j = xb := e; have := hgx.out; omega)
                have hO8 : Hid (Only (fun j => j = g) w (x7.setCell ⟨xb, 2, none⟩ (.string s5))) := (hO6.out.trans hOx).setCell (p := ⟨xb, 2, none⟩) (.inr hz4s) _
                have hown8 : Hid (Toks (x7.setCell ⟨xb, 2, none⟩ (.string s5)) w.heap.size u5 acc) := own_only (own_only hown6.out hOx fun j hj e => by have := hnb'.out j hj; omega) hOw fun j hj e => by have e : j = xb := e; have := hux.out j hj; omega
                clear hTx hOx hs5 hX7 hOw hT6 hO6 hown6 hX6 hC
                go_wp2_with fail
                go_meet
                case rel => exact ⟨⟨s1, s2, s5, s4⟩, q + 1 + 1 + 1 + 1 + 1 + 1, by omega, ⟨⟨hsml'.out.1, hsml'.out.2.1, hs5'.out, hsml'.out.2.2.2⟩, fun h => by cases h⟩, hX8, hown8, hT8, hO8⟩
              · have iz2 : ¬ (z : Int) = 2 := by omega
                by_cases z3 : z = 3
                · subst z3
                  have hC := Lib.hid (one_new B g (q + 1 + 1 + 1 + 1 + 1) 3 3 gW3 x6 hT6.out (by omega) rfl (by omega) (by omega))
                  go_wp2_with fail
                  refine hC.out.mono ?_
                  rintro e x7 ⟨⟨s5, hs5, rfl⟩, hTx, hOx⟩
                  have hs5' := Lib.hid (gW3_size s5 hs5)
                  have hX7 := hX6.out.only hOx (fun e => by have e : xb = g := e; have := hgx.out; omega)
                  have c3 := hX7.cell 3
                  have f3 := hX7.frozen 3
                  simp only [tokC, List.getElem?_toArray, List.getElem?_cons_zero, List.getElem?_cons_succ] at c3
                  have hX8 : Hid (Blk (x7.setCell ⟨xb, 3, none⟩ (.string s5)) xb 40 (tokC s1 s2 s3 s5)) := hX7.store 3 _
                  have hOw : Only (fun j => j = xb) x7 (x7.setCell ⟨xb, 3, none⟩ (.string s5)) := Only.setCell (S := fun j => j = xb) (Only.refl _ _) (p := ⟨xb, 3, none⟩) (.inl rfl) _
                  have hT8 : Hid (Tape (x7.setCell ⟨xb, 3, none⟩ (.string s5)) B g (q + 1 + 1 + 1 + 1 + 1 + 1)) := hTx.only hOw (fun e => by have e : g = xb := e; have := hgx.out; omega) (fun j e => by have e : j = xb := e; have := hgx.out; omega)
                  have hO8 : Hid (Only (fun j => j = g) w (x7.setCell ⟨xb, 3, none⟩ (.string s5))) := (hO6.out.trans hOx).setCell (p := ⟨xb, 3, none⟩) (.inr hz4s) _
                  have hown8 : Hid (Toks (x7.setCell ⟨xb, 3, none⟩ (.string s5)) w.heap.size u5 acc) := own_only (own_only hown6.out hOx fun j hj e => by have := hnb'.out j hj; omega) hOw fun j hj e => by have e : j = xb := e; have := hux.out j hj; omega
                  clear hTx hOx hs5 hX7 hOw hT6 hO6 hown6 hX6 hC
                  go_wp2_with fail
                  go_meet
                  case rel => exact ⟨⟨s1, s2, s3, s5⟩, q + 1 + 1 + 1 + 1 + 1 + 1, by omega, ⟨⟨hsml'.out.1, hsml'.out.2.1, hsml'.out.2.2.1, hs5'.out⟩, fun h => by cases h⟩, hX8, hown8, hT8, hO8⟩
                · have iz3 : ¬ (z : Int) = 3 := by omega
                  go_wp2_with fail
                  go_meet
                  case rel => exact ⟨⟨s1, s2, s3, s4⟩, q + 1 + 1 + 1 + 1 + 1, by omega, ⟨hsml'.out, fun h => by cases h⟩, hX6, hown6, hT6, hO6⟩
      case rest =>
        clear hX0 hO5 hT5 hown5 hs1' hs2' hs3' hs4'
        obtain ⟨x, q2, hq2, hx, hX, hown, hT, hO⟩ := hcut
        obtain ⟨ta, tb, tc, td⟩ := x
        have d0 := hX.out.cell 0
        have d1 := hX.out.cell 1
        have d2 := hX.out.cell 2
        have d3 := hX.out.cell 3
        simp only [tokC, List.getElem?_toArray, List.getElem?_cons_zero, List.getElem?_cons_succ] at d0 d1 d2 d3
        have hwc : w.heap.size ≤ wc.heap.size := hO.out.size
        clear hX
        go_wp2_with (at_builtin; refine wpList_append_own _ rfl (.tmp 54) (.tmp 56) 26 rfl w.heap.size 40 i0 (.agg #[.string ⟨#[]⟩, .string ⟨#[]⟩, .string ⟨#[]⟩, .string ⟨#[]⟩]) 4 64 Tryd.underlying26 hi0'.out hz0'.out hz1'.out hz2'.out rfl (by decide) u5 acc.length (flatT acc) rfl (own_below hown.out (Below.alloc (Below.refl _ _) (Nat.le_refl _) _)) ⟨wc.heap.size, 0, none⟩ 1 1 [.string ta, .string tb, .string tc, .string td] rfl rfl (cell_tok_new _ _ _ _ _ _) (by intro u hu; simp at hu; rcases hu with rfl | rfl | rfl | rfl <;> rfl) (by simp only [maxLen]; omega) (by omega) (by simp; omega) ?_; intro v' w1' hown' hgrow _)
        go_roundw
        case rel =>
          have hne := hnb'.out
          have hOn : Only (fun j => j = g) w w1' := (hO.out.alloc _).grown hgrow fun j hj => .inr (hne j hj)
          refine ⟨k - 1, q2, acc ++ [⟨ta, tb, tc, td⟩], by go_num, by simp; omega, by simp; omega, fun x hx2 => ?_, fun hb x hx2 => ?_, ?_, ?_, hOn⟩
          · rcases List.mem_append.1 hx2 with h | h
            · exact hsm.out x h
            · simp at h; subst h; exact hx.out.1
          · rcases List.mem_append.1 hx2 with h | h
            · exact hin.out hb x h
            · simp at h; subst h; exact hx.out.2 hb
          · unfold Hid Toks
            rw [flatT_app, List.length_append]
            exact hown'
          · have hS : Only (fun j => u5.ownBlock = some j ∨ wc.heap.size ≤ j) wc w1' := ((Only.refl _ _).alloc _).grown hgrow fun j hj => .inl (.inl hj)
            have hTl := hT.out.lt
            exact hT.out.only hS (fun e => by
              rcases e with e | e
              · have := hne _ e; omega
              · omega) (fun j hj => by
              rcases hj with e | e
              · have := hne _ e; omega
              · omega)
        case measure => simp [intOf]; omega
    · obtain rfl : k = 0 := by omega
      go_wp2_with fail
      go_ret
      exact ⟨acc, u5, q, rfl, by omega, hsm.out, hin.out, by omega, hown.out, hT.out, hO.out⟩

end Go.Proofs.YtofemhaepadggaaDoor
