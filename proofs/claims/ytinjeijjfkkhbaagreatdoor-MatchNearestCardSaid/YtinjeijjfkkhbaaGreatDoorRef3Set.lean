/-
  THE WALK of coldplugref03.Set: what comes back is a row of its own, of small texts.
-/
import Derived.Test.YtinjeijjfkkhbaaGreatDoorMatchLawBase
import Derived.Deep.AppendLies
namespace Go.Proofs.YtinjeijjfkkhbaaGreatDoor
open Go.RowKit

def flatA : List Att → List Value
  | [] => []
  | x :: l => .string x.1 :: .string x.2 :: flatA l
theorem flatA_app (l m : List Att) : flatA (l ++ m) = flatA l ++ flatA m := by
  induction l with
  | nil => rfl
  | cons a l ih => simp [flatA, ih]
theorem flatA_map (l : List Att) : (l.map attC).flatten = flatA l := by
  induction l with
  | nil => rfl
  | cons a l ih => simp [flatA, attC, ih]
/-- A slice of attributes in the call's own blocks from B on; an empty list is the nil slice. -/
def AttsOwn (w : World) (B : Nat) (v : Value) (l : List Att) : Prop := (l = [] → v = .slice none 0 0) ∧ w.ownsRow B 50 2 v l.length (flatA l)
theorem AttsOwn.row {w : World} {B : Nat} {v : Value} {l : List Att} (h : AttsOwn w B v l) (h9 : l.length ≤ 9223372036854775807) : RowAt w v 2 (l.map attC) := by
  have h' : w.ownsRow B 50 2 v l.length (flatA l) := h.2
  exact row_own (l := l.map attC) (by rw [List.length_map]; exact h') (flatA_map l) (fun x hx => by
    obtain ⟨y, _, rfl⟩ := List.mem_map.1 hx
    rfl) (by decide) (by rw [List.length_map]; exact h9)
theorem info_attr : (Tryz.prog.info? 50).map (fun i => (i.zero, i.size, i.bytes)) = some (some (.agg #[.string ⟨#[]⟩, .string ⟨#[]⟩]), 2, 32) := by kernel_rfl
theorem cell_two_new (w : World) (a b : Value) (t : TypeId) : ∀ (j : Nat) (u : Value), [a, b][j]? = some u → (w.alloc (.cells #[a, b] t)).cell? ((⟨w.heap.size, 0, none⟩ : Addr).add j) = some u := by
  intro j u h
  match j with
  | 0 => simp at h; subst h; simp [Addr.add]
  | 1 => simp at h; subst h; simp [Addr.add]
  | j + 2 => simp at h
/-- Small attributes. -/
def AttSm (l : List Att) : Prop := ∀ a ∈ l, a.1.size ≤ 100 ∧ a.2.size ≤ 100
theorem AttSm.app {l : List Att} {a : Att} (h : AttSm l) (h1 : a.1.size ≤ 100) (h2 : a.2.size ≤ 100) : AttSm (l ++ [a]) := fun x hx => by
  rcases List.mem_append.1 hx with hx | hx
  · exact h x hx
  · rw [List.mem_singleton.1 hx]; exact ⟨h1, h2⟩

theorem att_more {w wr w1 : World} {v u : Value} {acc : List Att} {a b : ByteArray} {o : Obj} (hown : AttsOwn wr w.heap.size v acc) (hb : Below w.heap.size w wr) (hown' : w1.ownsRow w.heap.size 50 2 u (acc.length + 1) (flatA acc ++ [.string a, .string b])) (hgrow : (wr.alloc o).grownBy w1 v.ownBlock) : AttsOwn w1 w.heap.size u (acc ++ [(a, b)]) ∧ Below w.heap.size w w1 := by
  have h1 : Only (fun j => v.ownBlock = some j) wr w1 := ((Only.refl _ _).alloc _).grown hgrow fun j hj => .inl hj
  refine ⟨?_, hb.trans (h1.below (fun k hk => (World.ownsRow.lt hown.2 k hk).1) hb.size)⟩
  refine ⟨fun e => absurd e (by simp), ?_⟩
  rw [flatA_app, List.length_append]
  exact hown'

set_option maxRecDepth 100000 in
set_option maxHeartbeats 4000000 in
theorem rset3_any (l : List Att) (v : Value) (nm va : ByteArray) (w : World) (hl : RowAt w v 2 (l.map attC)) (hsm : AttSm l) (hlen : l.length ≤ 1000) (hn : nm.size ≤ 100) (hv : va.size ≤ 100) :
    Calls Tryz.prog 45 #[v, .string nm, .string va] w fun e w' => ∃ (u : Value) (m : List Att), e = .returned u ∧ AttsOwn w' w.heap.size u m ∧ AttSm m ∧ m.length ≤ 2 * l.length + 1 ∧ Below w.heap.size w w' := by
  obtain ⟨i0, hi0, hz0, hz1, hz2⟩ := info_parts info_attr
  have hi0' := Lib.hid hi0; clear hi0
  have hz0' := Lib.hid hz0; clear hz0
  have hz1' := Lib.hid hz1; clear hz1
  have hz2' := Lib.hid hz2; clear hz2
  obtain ⟨n, hnl⟩ : ∃ n, l.length = n := ⟨_, rfl⟩
  have hshape : ∃ p c, v = .slice p n c ∧ ∀ (W : World), Below w.heap.size w W → ∀ (i : Nat) (x : Att), l[i]? = some x → ∃ g o, p = some ⟨g, o, none⟩ ∧ g < w.heap.size ∧ W.cell? ⟨g, o + i * 2, none⟩ = some (.string x.1) ∧ W.cell? ⟨g, o + i * 2 + 1, none⟩ = some (.string x.2) := by
    rcases hl.2 with ⟨rfl, h0⟩ | ⟨g, o, cap, rfl, hg, hc⟩
    · have h00 : l = [] := List.map_eq_nil_iff.1 h0
      subst h00
      subst hnl
      exact ⟨none, 0, rfl, fun W _ i x hx => by cases hx⟩
    · rw [List.length_map, hnl]
      refine ⟨_, _, rfl, fun W hW i x hx => ⟨g, o, rfl, hg, ?_, ?_⟩⟩
      · have h1 : (l.map attC)[i]? = some (attC x) := by rw [List.getElem?_map, hx]; rfl
        have := hc i _ h1 0 _ rfl
        exact (World.cell?_of_block (hW.block g hg)).trans this
      · have h1 : (l.map attC)[i]? = some (attC x) := by rw [List.getElem?_map, hx]; rfl
        have := hc i _ h1 1 _ rfl
        exact (World.cell?_of_block (hW.block g hg)).trans this
  obtain ⟨p, c, rfl, hcell⟩ := hshape
  have hcell' := Lib.hid hcell; clear hcell hl
  have hsm' := Lib.hid hsm; clear hsm
  have hnl' := Lib.hid hnl
  have hn100 : n ≤ 1000 := by omega
  clear hnl hlen
  have hn' := Lib.hid hn; clear hn
  have hv' := Lib.hid hv; clear hv
  go_enter Tryz.func45, Tryz.ntmps45
  go_wp2_with fail
  go_loopw [7, 8, 9] (fun s7 s8 s9 wr => ∃ (k : Nat) (b : Bool) (acc : List Att), s8 = .bool b ∧ s9 = .int .i64 k ∧ k ≤ n ∧ acc.length ≤ 2 * k ∧ Hid (AttSm acc) ∧ Hid (AttsOwn wr w.heap.size s7 acc) ∧ Hid (Below w.heap.size w wr)) (fun _ _ s9 _ => n - (intOf s9).toNat)
  case atStart => exact ⟨0, _, [], rfl, rfl, by omega, by simp, (show AttSm [] from fun a ha => by cases ha), ⟨fun _ => rfl, World.ownsRow_nil _ _ _ _⟩, Below.refl _ _⟩
  case round =>
    obtain ⟨k, b, acc, rfl, rfl, hk, hacc, hsa, hown, hb⟩ := hrel
    by_cases hkn : k < n
    · obtain ⟨x, hx⟩ : ∃ x, l[k]? = some x := ⟨_, List.getElem?_eq_getElem (by have := hnl'.out; omega)⟩
      obtain ⟨g, o, hp, hg, d0, d1⟩ := hcell'.out wr hb.out k x hx
      subst hp
      have hxs := Lib.hid (hsm'.out x (List.mem_of_getElem? hx))
      have ik : (k : Int) < (n : Int) := by omega
      have ik0 : (0 : Int) ≤ (k : Int) := by omega
      obtain ⟨xa, xb⟩ := x
      simp only at d0 d1
      have hx' := Lib.hid hx; clear hx
      have hzw := hb.out.size
      have hgw : g < wr.heap.size := by omega
      obtain ⟨t2, ht2⟩ : ∃ t2, (xa.toList == nm.toList) = t2 := ⟨_, rfl⟩
      cases b with
      | true =>
        cases t2 with
        | true =>
          go_wp2_with fail
          go_roundw
          case rel => exact ⟨k + 1, true, acc, rfl, by go_num, by omega, by omega, hsa, hown, hb⟩
          case measure => simp [intOf]; omega
        | false =>
          go_wp2_with (at_builtin; refine wpList_append_own _ rfl (.tmp 42) (.tmp 47) 38 rfl w.heap.size 50 i0 (.agg #[.string ⟨#[]⟩, .string ⟨#[]⟩]) 2 32 Tryz.underlying38 hi0'.out hz0'.out hz1'.out hz2'.out rfl (by decide) u7 (acc).length (flatA (acc)) rfl (World.ownsRow.alloc hown.out.2 _) ⟨wr.heap.size, 0, none⟩ 1 1 [.string xa, .string xb] rfl rfl (cell_two_new _ _ _ _) (by intro u hu; simp at hu; rcases hu with rfl | rfl <;> rfl) (by simp only [maxLen]; omega) (by omega) (by simp; omega) ?_; intro v' w1 hown' hgrow _)
          have hF := att_more hown.out hb.out hown' hgrow
          have hF1 := Lib.hid hF.1
          have hF2 := Lib.hid hF.2
          clear hF hown' hgrow
          go_roundw
          case rel => exact ⟨k + 1, true, (acc) ++ [(xa, xb)], rfl, by go_num, by omega, by simp; omega, hsa.out.app hxs.out.1 hxs.out.2, hF1, hF2⟩
          case measure => simp [intOf]; omega
      | false =>
        obtain ⟨t1, ht1⟩ : ∃ t1, Op.bytesLess xa.toList nm.toList = t1 := ⟨_, rfl⟩
        cases t1 with
        | true =>
          cases t2 with
          | true =>
            go_wp2_with fail
            go_roundw
            case rel => exact ⟨k + 1, false, acc, rfl, by go_num, by omega, by omega, hsa, hown, hb⟩
            case measure => simp [intOf]; omega
          | false =>
            go_wp2_with (at_builtin; refine wpList_append_own _ rfl (.tmp 42) (.tmp 47) 38 rfl w.heap.size 50 i0 (.agg #[.string ⟨#[]⟩, .string ⟨#[]⟩]) 2 32 Tryz.underlying38 hi0'.out hz0'.out hz1'.out hz2'.out rfl (by decide) u7 (acc).length (flatA (acc)) rfl (World.ownsRow.alloc hown.out.2 _) ⟨wr.heap.size, 0, none⟩ 1 1 [.string xa, .string xb] rfl rfl (cell_two_new _ _ _ _) (by intro u hu; simp at hu; rcases hu with rfl | rfl <;> rfl) (by simp only [maxLen]; omega) (by omega) (by simp; omega) ?_; intro v' w1 hown' hgrow _)
            have hF := att_more hown.out hb.out hown' hgrow
            have hF1 := Lib.hid hF.1
            have hF2 := Lib.hid hF.2
            clear hF hown' hgrow
            go_roundw
            case rel => exact ⟨k + 1, false, (acc) ++ [(xa, xb)], rfl, by go_num, by omega, by simp; omega, hsa.out.app hxs.out.1 hxs.out.2, hF1, hF2⟩
            case measure => simp [intOf]; omega
        | false =>
          go_upto_if 28 with fail
          go_cut [7, 8] (fun s7 s8 wc => ∃ acc2 : List Att, s8 = .bool true ∧ acc2.length = acc.length + 1 ∧ Hid (AttSm acc2) ∧ Hid (AttsOwn wc w.heap.size s7 acc2) ∧ Hid (Below w.heap.size w wc))
          case first =>
            go_wp2_with (at_builtin; refine wpList_append_own _ rfl (.tmp 29) (.tmp 33) 38 rfl w.heap.size 50 i0 (.agg #[.string ⟨#[]⟩, .string ⟨#[]⟩]) 2 32 Tryz.underlying38 hi0'.out hz0'.out hz1'.out hz2'.out rfl (by decide) u7 (acc).length (flatA (acc)) rfl (World.ownsRow.alloc hown.out.2 _) ⟨wr.heap.size, 0, none⟩ 1 1 [.string nm, .string va] rfl rfl (cell_two_new _ _ _ _) (by intro u hu; simp at hu; rcases hu with rfl | rfl <;> rfl) (by simp only [maxLen]; omega) (by omega) (by simp; omega) ?_; intro v' w1 hown' hgrow _)
            have hF := att_more hown.out hb.out hown' hgrow
            have hF1 := Lib.hid hF.1
            have hF2 := Lib.hid hF.2
            clear hF hown' hgrow
            go_meet
            case rel => exact ⟨acc ++ [(nm, va)], rfl, by simp, hsa.out.app hn'.out hv'.out, hF1, hF2⟩
          case rest =>
            clear hown hb d0 d1
            obtain ⟨acc2, rfl, hl2, hsa2, hown2, hb2⟩ := hcut
            obtain ⟨g2, o2, hp2, hg2, d0, d1⟩ := hcell'.out wc hb2.out k (xa, xb) hx'.out
            cases hp2
            have hzw2 := hb2.out.size
            simp only at d0 d1
            cases t2 with
            | true =>
              go_wp2_with fail
              go_roundw
              case rel => exact ⟨k + 1, true, acc2, rfl, by go_num, by omega, by omega, hsa2, hown2, hb2⟩
              case measure => simp [intOf]; omega
            | false =>
              go_wp2_with (at_builtin; refine wpList_append_own _ rfl (.tmp 42) (.tmp 47) 38 rfl w.heap.size 50 i0 (.agg #[.string ⟨#[]⟩, .string ⟨#[]⟩]) 2 32 Tryz.underlying38 hi0'.out hz0'.out hz1'.out hz2'.out rfl (by decide) u7 (acc2).length (flatA (acc2)) rfl (World.ownsRow.alloc hown2.out.2 _) ⟨wc.heap.size, 0, none⟩ 1 1 [.string xa, .string xb] rfl rfl (cell_two_new _ _ _ _) (by intro u hu; simp at hu; rcases hu with rfl | rfl <;> rfl) (by simp only [maxLen]; omega) (by omega) (by simp; omega) ?_; intro v' w1 hown' hgrow _)
              have hF := att_more hown2.out hb2.out hown' hgrow
              have hF1 := Lib.hid hF.1
              have hF2 := Lib.hid hF.2
              clear hF hown' hgrow
              go_roundw
              case rel => exact ⟨k + 1, true, (acc2) ++ [(xa, xb)], rfl, by go_num, by omega, by simp; omega, hsa2.out.app hxs.out.1 hxs.out.2, hF1, hF2⟩
              case measure => simp [intOf]; omega
    · obtain rfl : k = n := by omega
      have hzw := hb.out.size
      cases b with
      | true =>
        go_wp2_with fail
        go_ret
        exact ⟨_, acc, rfl, hown.out, hsa.out, by have := hnl'.out; omega, hb.out⟩
      | false =>
        go_wp2_with (at_builtin; refine wpList_append_own _ rfl (.tmp 51) (.tmp 55) 38 rfl w.heap.size 50 i0 (.agg #[.string ⟨#[]⟩, .string ⟨#[]⟩]) 2 32 Tryz.underlying38 hi0'.out hz0'.out hz1'.out hz2'.out rfl (by decide) u7 (acc).length (flatA (acc)) rfl (World.ownsRow.alloc hown.out.2 _) ⟨wr.heap.size, 0, none⟩ 1 1 [.string nm, .string va] rfl rfl (cell_two_new _ _ _ _) (by intro u hu; simp at hu; rcases hu with rfl | rfl <;> rfl) (by simp only [maxLen]; omega) (by omega) (by simp; omega) ?_; intro v' w1 hown' hgrow _)
        have hF := att_more hown.out hb.out hown' hgrow
        have hF1 := Lib.hid hF.1
        have hF2 := Lib.hid hF.2
        clear hF hown' hgrow
        go_ret
        exact ⟨_, acc ++ [(nm, va)], rfl, hF1.out, hsa.out.app hn'.out hv'.out, by have := hnl'.out; simp; omega, hF2.out⟩

end Go.Proofs.YtinjeijjfkkhbaaGreatDoor
