/-
  THE WALK of coldpluglaw08.line: the maker of lines.
-/
import Derived.Test.YtofemhaepadggaaDoorLexFmt
import Derived.Test.YtofemhaepadggaaDoorLexSame
namespace Go.Proofs.YtofemhaepadggaaDoor
open Go.RowKit

def lA : List ByteArray := [⟨#[]⟩, ⟨#[32]⟩, ⟨#[44]⟩, ⟨#[9]⟩]
def lB : List ByteArray := [⟨#[44]⟩, ⟨#[32]⟩, ⟨#[44, 32]⟩, ⟨#[9, 44]⟩, ⟨#[]⟩]
def lC : List ByteArray := [⟨#[]⟩, ⟨#[34]⟩, ⟨#[92]⟩, ⟨#[123]⟩, ⟨#[125]⟩, ⟨#[61]⟩, ⟨#[97]⟩, ⟨#[32]⟩, ⟨#[128]⟩, ⟨#[9]⟩]
theorem lA_size : ∀ s ∈ lA, s.size ≤ 2 := by decide
theorem lB_size : ∀ s ∈ lB, s.size ≤ 2 := by decide
theorem lC_size : ∀ s ∈ lC, s.size ≤ 2 := by decide

theorem TokAt.sub {w : World} {B : Nat} {g cap : Nat} {l : List TB} (h : Toks w B (.slice (some ⟨g, 0, none⟩) l.length cap) l) {k : Nat} {x : TB} (hx : l[k]? = some x) (c : Nat) : TokAt w (.slice (some ⟨g, k * 4, none⟩) 1 c) [x] := by
  have h' : w.ownsRow B 40 4 (.slice (some ⟨g, 0, none⟩) l.length cap) l.length (flatT l) := h
  have hk : k < l.length := (List.getElem?_eq_some_iff.1 hx).1
  refine ⟨by simp, .inr ⟨g, k * 4, c, rfl, (World.ownsRow.lt h' g rfl).2, fun j y hy => ?_⟩⟩
  match j with
  | 0 =>
    simp at hy
    subst hy
    obtain ⟨h0, h1, h2, h3⟩ := flatT_get l k x hx
    simp only [Nat.zero_mul, Nat.add_zero]
    exact ⟨(World.ownsRow.cellAt h' _ (by omega)).trans h0, (World.ownsRow.cellAt h' _ (by omega)).trans h1, (World.ownsRow.cellAt h' _ (by omega)).trans h2, (World.ownsRow.cellAt h' _ (by omega)).trans h3⟩
  | j + 1 => simp at hy

theorem fmt_len (l : List TB) : (L.fmt (l.map TB.tok)).1.length ≤ 1024 := by
  unfold L.fmt
  split
  · simp
  · split
    · simp
    · simp only; omega

set_option maxRecDepth 100000 in
set_option maxHeartbeats 4000000 in
theorem line_any (B g q0 : Nat) (m : Int) (w : World) (hT : Tape w B g q0) (hq0 : q0 ≤ 10000) (hm : w.cell? ⟨0, 0, none⟩ = some (.int .i64 m)) (hg0 : g ≠ 0) :
    Calls Tryd.prog 24 #[.pointer (some ⟨g, 0, none⟩)] w fun e w' => (∃ s : ByteArray, e = .returned (.string s) ∧ s.size ≤ 10000) ∧ (∃ q, q ≤ q0 + 100 ∧ Tape w' B g q) ∧ Only (fun j => j = g) w w' := by
  have h0lt : 0 < w.heap.size := World.block_lt_of_cell? w _ hm
  have hlt : g < w.heap.size := hT.lt.2
  have keepm : Hid (∀ W, Only (fun j => j = g) w W → W.cell? ⟨0, 0, none⟩ = some (.int .i64 m)) := fun W ho => (World.cell?_of_block (ho.block 0 h0lt (fun e => hg0 e.symm))).trans hm
  clear hm
  have hC1 := Lib.hid (one_new B g q0 4 4 lA w hT (by omega) rfl (by omega) (by omega))
  clear hT
  go_enter Tryd.func24, Tryd.ntmps24
  go_wp2_with fail
  refine hC1.out.mono ?_
  rintro e v1 ⟨⟨s1, hs1, rfl⟩, hTx, hOx⟩
  have hs1' := lA_size s1 hs1
  have hT1 := Lib.hid hTx
  have hO1 := Lib.hid hOx
  have hG := Lib.hid (gtokens_any B g (q0 + 1) false v1 hT1.out (by omega))
  clear hTx hOx hs1 hC1
  go_wp2_with fail
  refine hG.out.mono ?_
  rintro e v2 ⟨l, v, q, rfl, hl4, hsm, _, hq, hTk, hTx, hOx⟩
  have hT2 := Lib.hid hTx
  have hO2 := Lib.hid (hO1.out.trans hOx)
  have hsm' := Lib.hid hsm
  have hTk' := Lib.hid hTk
  have hgv : Hid (∀ j, v.ownBlock = some j → v1.heap.size ≤ j) := fun j hj => (World.ownsRow.lt hTk j hj).1
  have h1w : Hid (w.heap.size ≤ v1.heap.size) := hO1.out.size
  obtain ⟨pv, cv, rfl, hsh⟩ := Toks.shape hTk
  clear hTx hOx hTk hT1 hO1 hG hsm
  obtain ⟨n, hn⟩ : ∃ n, l.length = n := ⟨_, rfl⟩
  have hcv : n ≤ cv := by
    have h := hTk'.out
    rcases h.2 with ⟨h1, h2⟩ | ⟨g9, c9, cur, h1, _, _, h3, _⟩
    · rw [← hn, h2]; omega
    · injection h1 with _ _ h4
      rw [← hn, h4]; exact h3
  clear hsh
  rw [hn] at hl4 hTk' hgv ⊢
  have hn' := Lib.hid hn; clear hn
  go_wp2_with fail
  go_loopw [3, 5] (fun s3 s5 wr => ∃ (k p : Nat) (S : ByteArray), s3 = .string S ∧ s5 = .int .i64 k ∧ k ≤ n ∧ p ≤ q + k ∧ S.size ≤ 2 + k * 1100 ∧ Hid (Toks wr v1.heap.size (.slice pv n cv) l) ∧ Hid (Tape wr B g p) ∧ Hid (Only (fun j => j = g) w wr)) (fun _ s5 _ => n - (intOf s5).toNat)
  case atStart => exact ⟨0, q, s1, rfl, rfl, by omega, by omega, by omega, hTk', hT2, hO2⟩
  case round =>
    clear hTk' hT2 hO2
    obtain ⟨k, p, S, rfl, rfl, hk, hp, hS, hTk, hT, hO⟩ := hrel
    by_cases hkn : k < n
    · obtain ⟨x, hx⟩ : ∃ x, l[k]? = some x := ⟨_, List.getElem?_eq_getElem (by have := hn'.out; omega)⟩
      obtain ⟨gb, rfl⟩ : ∃ gb, pv = some ⟨gb, 0, none⟩ := by
        rcases hTk.out.2 with ⟨_, h2⟩ | ⟨g9, c9, cur, h1, _⟩
        · have := hn'.out; omega
        · injection h1 with h4 _ _
          exact ⟨g9, h4⟩
      have hF := fun c => rformat_any [x] _ m wr (TokAt.sub (c := c) (by have := hTk.out; rw [← hn'.out] at this; exact this) hx) (fun y hy => by have e : y = x := (by simpa using hy); rw [e]; exact (hsm'.out x (List.mem_of_getElem? hx)).fit) (keepm.out wr hO.out)
      have hfl := fmt_len [x]
      generalize L.fmt ([x].map TB.tok) = F at *
      have hF' := Lib.hid hF; clear hF hx
      have ik : (k : Int) < (n : Int) := by omega
      have ik0 : (0 : Int) ≤ (k : Int) := by omega
      have i1 : (0 : Int) ≤ (k : Int) + 1 := by omega
      have i2 : (k : Int) + 1 ≤ (cv : Int) := by omega
      have i3 : (k : Int) ≤ (k : Int) + 1 := by omega
      have i4 : ((k : Int) + 1).toNat = k + 1 := by omega
      have i5 : k + 1 - k = 1 := by omega
      by_cases hkc : k = cv
      · omega
      · go_wp2_with fail
        refine (hF'.out _).mono ?_
        rintro e v3 ⟨⟨X, rfl, hX⟩, hb3⟩
        have hXs : X.size ≤ 1024 := by rw [← length_bs, hX]; exact hfl
        have hTk3 : Hid (Toks v3 v1.heap.size (.slice (some ⟨gb, 0, none⟩) n cv) l) := own_below hTk.out hb3
        have hT3 : Hid (Tape v3 B g p) := hT.out.below hb3
        have hO3 : Hid (Only (fun j => j = g) w v3) := hO.out.trans (Only.of_below hb3 (fun j h1 h2 => absurd h1 (by omega)))
        clear hTk hT hO hb3 hX hF'
        have hC := Lib.hid (one_new B g p 5 5 lB v3 hT3.out (by omega) rfl (by omega) (by omega))
        go_wp2_with fail
        refine hC.out.mono ?_
        rintro e v4 ⟨⟨s4, hs4, rfl⟩, hTx, hOx⟩
        have hs4' := lB_size s4 hs4
        have hT4 := Lib.hid hTx
        have hO4 := Lib.hid (hO3.out.trans hOx)
        have hTk4 : Hid (Toks v4 v1.heap.size (.slice (some ⟨gb, 0, none⟩) n cv) l) := own_only hTk3.out hOx fun j hj e => by have := hgv.out j hj; have := h1w.out; omega
        clear hTx hOx hs4 hT3 hO3 hTk3 hC
        go_wp2_with fail
        go_roundw
        case rel => exact ⟨k + 1, p + 1, S ++ (X ++ s4), rfl, by go_num, by omega, by omega, by rw [ByteArray.size_append, ByteArray.size_append]; omega, hTk4, hT4, hO4⟩
        case measure => simp [intOf]; omega
    · obtain rfl : k = n := by omega
      clear hTk hgv hcv
      have hSn : S.size ≤ 5000 := by omega
      by_cases hS0 : S.size = 0
      · have i0 : (S.size : Int) = 0 := by omega
        go_wp2_with fail
        go_ret
        exact ⟨⟨S, rfl, by omega⟩, ⟨p, by omega, hT.out⟩, hO.out⟩
      · have i0 : ¬ (S.size : Int) = 0 := by omega
        have i0' : ((S.size : Int) == 0) = false := beq_eq_false_iff_ne.2 i0
        have hN := Lib.hid (next_any B g p 2 wr hT.out (by omega) (by omega) (by omega))
        go_wp2_with fail
        refine hN.out.mono ?_
        rintro e v3 ⟨⟨r, hr, rfl⟩, hTx, hOx⟩
        have hT3 := Lib.hid hTx
        have hO3 := Lib.hid (hO.out.trans hOx)
        clear hTx hOx hT hO hN
        by_cases hr0 : r = 0
        · subst hr0
          go_wp2_with fail
          go_ret
          exact ⟨⟨S, rfl, by omega⟩, ⟨p + 1, by omega, hT3.out⟩, hO3.out⟩
        · have j0 : ¬ (r : Int) = 0 := by omega
          have j0' : ((r : Int) == 0) = false := beq_eq_false_iff_ne.2 j0
          have hN := Lib.hid (next_any B g (p + 1) S.size v3 hT3.out (by omega) (by omega) (by omega))
          go_wp2_with fail
          refine hN.out.mono ?_
          rintro e v4 ⟨⟨z, hz, rfl⟩, hTx, hOx⟩
          have hT4 := Lib.hid hTx
          have hO4 := Lib.hid (hO3.out.trans hOx)
          clear hTx hOx hT3 hO3 hN j0 j0' hr0 hr
          have k0 : (0 : Int) ≤ (z : Int) := by omega
          have k1 : (z : Int) ≤ (S.size : Int) := by omega
          go_upto_region 11 with fail
          have hOne := Lib.hid (one_new B g (p + 1 + 1) 10 10 lC v4.drew hT4.out (by omega) rfl (by omega) (by omega))
          have hb0 : (S.extract 0 z).size = z := by rw [ByteArray.size_extract]; omega
          have a1 : ∀ x : ByteArray, x ∈ lC → ¬ (9223372036854775807 < z + x.size) := fun x h => by have := lC_size x h; omega
          have a2 : ∀ x : ByteArray, x ∈ lC → ¬ (9223372036854775807 < min z S.size + x.size) := fun x h => by have := lC_size x h; omega
          have b1 : ∀ r2 : Nat, r2 < 2 → (z : Int) + (r2 : Int) ≤ (S.size : Int) := fun r2 h => by omega
          have b2 : ∀ r2 : Nat, r2 < 2 → (0 : Int) ≤ (z : Int) + (r2 : Int) := fun r2 h => by omega
          have b3 : ∀ r2 : Nat, r2 < 2 → ((z : Int) + (r2 : Int)).toNat = z + r2 := fun r2 h => by omega
          have b4 : ∀ r2 : Nat, r2 < 2 → IntKind.i64.wrap ((z : Int) + (r2 : Int)) = (z : Int) + (r2 : Int) := fun r2 h => IntWalk.i64_in _ (by omega)
          have b5 : ∀ (x : ByteArray) (r2 : Nat), x ∈ lC → ¬ (9223372036854775807 < z + x.size + (S.size - (z + r2))) := fun x r2 h => by have := lC_size x h; omega
          have b6 : ∀ (x : ByteArray) (r2 : Nat), x ∈ lC → ¬ (9223372036854775807 < min z S.size + x.size + (S.size - (z + r2))) := fun x r2 h => by have := lC_size x h; omega
          have a1' := Lib.hid a1
          have a2' := Lib.hid a2
          have b1' := Lib.hid b1
          have b2' := Lib.hid b2
          have b3' := Lib.hid b3
          have b4' := Lib.hid b4
          have b5' := Lib.hid b5
          have b6' := Lib.hid b6
          have hNx : ∀ y1, Tape y1 B g (p + 1 + 1 + 1) → Calls Tryd.prog 17 #[.pointer (some ⟨g, 0, none⟩), .int .i64 2] y1 fun e w' => (∃ r : Nat, r < 2 ∧ e = .returned (.int .i64 r)) ∧ Tape w' B g (p + 1 + 1 + 1 + 1) ∧ Only (fun j => j = g) y1 w' := fun y1 h => next_any B g (p + 1 + 1 + 1) 2 y1 h (by omega) (by omega) (by omega)
          have hNx' := Lib.hid hNx
          clear a1 a2 b1 b2 b3 b4 b5 b6 hNx
          go_region_with (first | (go_at_call 11; refine hOne.out.mono ?_; rintro e y1 ⟨⟨s5, hs5, rfl⟩, hT5, hO5⟩; have n1 := a1'.out s5 hs5; have n2 := a2'.out s5 hs5) | (go_at_call 17; refine (hNx'.out y1 hT5).mono ?_; rintro e y2 ⟨⟨r2, hr2, rfl⟩, hT6, hO6⟩; have k2 := b1'.out r2 hr2; have k3 := b2'.out r2 hr2; have k4 := b3'.out r2 hr2; have k5 := b4'.out r2 hr2; have n3 := b5'.out s5 r2 hs5; have n4 := b6'.out s5 r2 hs5))
          all_goals
            have hT7 := Lib.hid hT6
            have hO7 := Lib.hid (((hO4.out.drew).trans hO5).trans hO6)
            have hfs : (S.extract 0 z ++ s5 ++ S.extract (z + r2) S.size).size ≤ 10000 := by
              have := lC_size s5 hs5
              rw [ByteArray.size_append, ByteArray.size_append, ByteArray.size_extract, ByteArray.size_extract]; omega
            clear hT5 hT6 hO5 hO6 n1 n2 n3 n4 k2 k3 k4 k5
            go_wp2_with fail
            go_ret
            exact ⟨⟨_, rfl, hfs⟩, ⟨p + 1 + 1 + 1 + 1, by omega, hT7.out⟩, hO7.out⟩

end Go.Proofs.YtofemhaepadggaaDoor
