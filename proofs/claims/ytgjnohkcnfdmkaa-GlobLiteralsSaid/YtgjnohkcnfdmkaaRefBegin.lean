/-
  THE WALK of coldplugref02.beginning.
-/
import Derived.Test.YtgjnohkcnfdmkaaRefMatch
import Derived.Test.YtgjnohkcnfdmkaaGlobBegin
import Derived.Test.YtgjnohkcnfdmkaaComErr
namespace Go.Proofs.Ytgjnohkcnfdmkaa
open Go.RowKit

/-- An element that stands for its own byte and for no other one, or for no byte of its own. -/
def G.LitEx (e : G.El) : Prop := e.lit = 0 ∨ (G.pr e.lit = true ∧ e.star = false ∧ ∀ c, e.set c = decide (c = e.lit))
theorem G.alts_litEx {p : List Nat} {l : List (List G.El)} (h : G.alts p = some l) : G.AllA G.LitEx l :=
  G.alts_every (.inl rfl) (.inl rfl) (fun _ _ => .inl rfl) (fun c hc => .inr ⟨hc, rfl, fun d => rfl⟩) h

theorem conv_one (W : World) (c : Nat) : (convert 95 9 (.slice (some ⟨W.heap.size, 0, none⟩) 1 1)).run Try.prog (W.alloc (.cells #[.int .u8 c] 5)) = .ok (.string (strOfNums [(c : Int)])) (W.alloc (.cells #[.int .u8 c] 5)) :=
  TextRow.conv (B := W.heap.size) (text := [c]) (World.ownsRow_lit W #[.int .u8 c] 1 (Nat.le_refl _) (by simp [maxLen]) rfl)
theorem bs_app (a b : ByteArray) : bs (a ++ b) = bs a ++ bs b := by simp [bs]

set_option maxRecDepth 100000 in
set_option maxHeartbeats 2000000 in
theorem rbegin_any {w : World} {B : Nat} {v : Value} {l : List G.El} (hr : RowR w B v l) (hl2 : l.length ≤ 256) (hlit : ∀ e, e ∈ l → G.LitEx e) :
    Calls Try.prog 72 #[v] w fun e w' => ∃ s : ByteArray, e = .returned (.string s) ∧ bs s = G.litPre l ∧ Below w.heap.size w w' := by
  obtain ⟨p, cap, rfl, hpf⟩ := hr.parts
  have hpf' := Lib.hid hpf; clear hpf hr
  have hlit' := Lib.hid hlit; clear hlit
  have hll : (l.length : Int) ≤ 256 := by omega
  go_enter Try.func72, Try.ntmps72
  go_wp2_with fail
  go_loopw [3, 4] (fun s3 s4 wr => ∃ (k : Nat) (s : ByteArray), s4 = .int .i64 k ∧ s3 = .string s ∧ G.LitTo l k (bs s) ∧ Below w.heap.size w wr) (fun _ s4 _ => l.length - (intOf s4).toNat)
  case atStart => exact ⟨0, ⟨#[]⟩, rfl, rfl, G.LitTo.start l, Below.refl _ _⟩
  case round =>
    obtain ⟨k, s, rfl, rfl, r2, r4⟩ := hrel
    obtain ⟨w0, rfl⟩ : ∃ y : World, y = wr := ⟨_, rfl⟩
    have hkl := r2.1
    by_cases hlt : k < l.length
    · obtain ⟨x, hx⟩ : ∃ x, l[k]? = some x := ⟨_, List.getElem?_eq_getElem hlt⟩
      obtain ⟨g, rfl, hg, hcg⟩ := hpf'.out k x hx
      have cl : w0.cell? ⟨g, k * 130 + 1, none⟩ = some (.bool (decide (x.lit ≠ 0))) := ((r4.cell (p := ⟨g, k * 130 + 1, none⟩) hg).trans (hcg 1 (by omega))).trans (elLR_lit x)
      have hok := hlit'.out x (List.mem_of_getElem? hx)
      by_cases h0 : x.lit = 0
      · rw [show decide (x.lit ≠ 0) = false from by simp [h0]] at cl
        have hfin := r2.stop hx h0
        have hfin' := Lib.hid hfin; clear hfin hcg hok h0 hx r2
        have r4' := Lib.hid r4; clear r4
        go_wp2_with fail
        go_ret
        exact ⟨s, rfl, hfin'.out.symm, r4'.out⟩
      · rw [show decide (x.lit ≠ 0) = true from by simp [h0]] at cl
        have hex : G.pr x.lit = true ∧ x.star = false ∧ ∀ c, x.set c = decide (c = x.lit) := hok.resolve_left h0
        obtain ⟨h1, h2, h3⟩ := hex
        have hb1 : 32 ≤ x.lit ∧ x.lit ≤ 126 := by
          simp only [G.pr, Bool.and_eq_true, decide_eq_true_eq] at h1
          exact h1
        obtain ⟨hb1, hb2⟩ := hb1
        have hcs : ∀ wx, Below w.heap.size w wx → ∀ c, c < 128 → wx.cell? ⟨g, k * 130 + 2 + c, none⟩ = some (.bool (decide (c = x.lit))) := fun wx hb c hc => by
          have := ((hb.cell (p := ⟨g, k * 130 + (2 + c), none⟩) hg).trans (hcg (2 + c) (by omega))).trans (elLR_set x c hc)
          rw [h2, h3, ← Nat.add_assoc] at this
          simpa using this
        have hmore := r2.more hx h0
        have hsk : s.size = k := by rw [← length_bs]; exact r2.2.2
        have hsl : s.size ≤ 256 := by omega
        have hmore' := Lib.hid hmore; clear hmore
        have hcs' := Lib.hid hcs; clear hcs hcg hok h1 h2 h3 hx r2 hsk
        generalize x.lit = m at *
        have r4' := Lib.hid r4; clear r4
        go_wp2_with fail
        go_loopw [3, 5] (fun s3 s5 wx => ∃ (c : Nat) (t : ByteArray), s5 = .int .i64 c ∧ 32 ≤ c ∧ c ≤ 127 ∧ s3 = .string t ∧ bs t = bs s ++ (if m < c then [m] else []) ∧ Below w.heap.size w wx) (fun _ s5 _ => 127 - (intOf s5).toNat)
        case atStart => exact ⟨32, s, rfl, by omega, by omega, rfl, by rw [if_neg (by omega), List.append_nil], r4'.out⟩
        case round =>
          clear r4' cl
          obtain ⟨c, t, rfl, hc1, hc2, rfl, ht, hb⟩ := hrel
          by_cases hc3 : c ≤ 126
          · have cc := hcs'.out wr hb c (by omega)
            have j1 : (c : Int) ≤ 126 := by omega
            have j2 : (c : Int) < 128 := by omega
            have j0 : (0 : Int) ≤ (c : Int) := by omega
            by_cases hcm : c = m
            · subst hcm
              rw [decide_eq_true rfl] at cc
              rw [if_neg (by omega), List.append_nil] at ht
              have htl : t.size ≤ 256 := by rw [← length_bs, ht, length_bs]; exact hsl
              have hcv := conv_one wr c
              have hbs : bs (strOfNums [(c : Int)]) = [c] := bs_nums (l := [c]) fun d hd => by simp at hd; omega
              have hbl : Below w.heap.size w (wr.alloc (.cells #[.int .u8 c] 5)) := hb.alloc hb.size _
              obtain ⟨st, hst⟩ : ∃ z, z = strOfNums [(c : Int)] := ⟨_, rfl⟩
              rw [← hst] at hcv hbs
              have hsz : st.size = 1 := by rw [← length_bs, hbs]; rfl
              have hsz2 : st.size ≤ 1 := by omega
              have hfin : bs (t ++ st) = bs s ++ (if c < c + 1 then [c] else []) := by rw [bs_app, ht, hbs, if_pos (by omega)]
              have hfin' := Lib.hid hfin; clear hfin hst ht hbs hsz
              have hbl' := Lib.hid hbl; clear hbl hb
              have hwc : IntKind.u8.wrap (c : Int) = (c : Int) := IntWalk.u8_in _ (by omega)
              go_wp2_with fail
              go_roundw
              case rel => exact ⟨c + 1, t ++ st, by go_num, by omega, by omega, rfl, hfin'.out, hbl'.out⟩
              case measure => simp [intOf]; omega
            · rw [decide_eq_false hcm] at cc
              have hfin : bs t = bs s ++ (if m < c + 1 then [m] else []) := by
                rw [ht]
                by_cases e : m < c
                · rw [if_pos e, if_pos (by omega)]
                · rw [if_neg e, if_neg (by omega)]
              have hfin' := Lib.hid hfin; clear hfin ht
              have hb' := Lib.hid hb; clear hb
              go_wp2_with fail
              go_roundw
              case rel => exact ⟨c + 1, t, by go_num, by omega, by omega, rfl, hfin'.out, hb'.out⟩
              case measure => simp [intOf]; omega
          · obtain rfl : c = 127 := by omega
            rw [if_pos (by omega)] at ht
            have hfin : G.LitTo l (k + 1) (bs t) := by rw [ht]; exact hmore'.out
            have hfin' := Lib.hid hfin; clear hfin ht
            have hb' := Lib.hid hb; clear hb
            go_wp2_with fail
            go_roundw
            case rel => exact ⟨k + 1, t, by go_num, rfl, hfin'.out, hb'.out⟩
            case measure => simp [intOf]; omega
    · obtain rfl : k = l.length := by omega
      have hfin := r2.end_
      have hfin' := Lib.hid hfin; clear hfin r2
      have r4' := Lib.hid r4; clear r4
      go_wp2_with fail
      go_ret
      exact ⟨s, rfl, hfin'.out.symm, r4'.out⟩

end Go.Proofs.Ytgjnohkcnfdmkaa
