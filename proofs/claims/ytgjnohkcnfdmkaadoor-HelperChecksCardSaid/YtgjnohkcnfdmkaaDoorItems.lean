/-
  THE WALKS of helper.Items and of the reference's Items: the items of an output.
-/
import Derived.Test.YtgjnohkcnfdmkaaDoorItemMem
import Derived.Test.YtgjnohkcnfdmkaaDoorRefKey
import Derived.Deep.AppendLies
namespace Go.Proofs.YtgjnohkcnfdmkaaDoor
open Go.RowKit

theorem split_any (s : ByteArray) (m : Int) (w : World) (hs : s.size < 4294967281) (hm : w.cell? ⟨0, 0, none⟩ = some (.int .i64 m)) :
    Calls Tryd.prog 30 #[.string s, .string ⟨#[59]⟩] w fun e w' => e = .returned (.slice (some ⟨w.heap.size, 0, none⟩) (pieces s).length (pieces s).length) ∧ w' = w.alloc (.cells ((pieces s).map Value.string).toArray 9) := by
  have h := Tryd.strings_Split s ⟨#[59]⟩ m w hs hm (by decide)
  have e : (pieces s).length = Lib.countB s ⟨#[59]⟩ + 1 := Lib.splitB_all ⟨#[59]⟩ (by decide) 0 _ s rfl
  rw [e]
  exact h
theorem cut_any (x : ByteArray) (m : Int) (w : World) (hs : x.size < 4294967281) (hm : w.cell? ⟨0, 0, none⟩ = some (.int .i64 m)) :
    Calls Tryd.prog 31 #[.string x, .string ⟨#[61]⟩] w fun e w' => e = .returned (.tuple #[.string (cutK x), .string (cutV x), .bool (cutOk x)]) ∧ ∃ n, w' = w.drewN n :=
  Tryd.strings_Cut x ⟨#[61]⟩ m w hs hm

theorem info_attr : (Tryd.prog.info? 46).map (fun i => (i.zero, i.size, i.bytes)) = some (some (.agg #[.string ⟨#[]⟩, .string ⟨#[]⟩]), 2, 32) := by kernel_rfl
theorem cell_two_new (w : World) (a b : Value) (t : TypeId) : ∀ (j : Nat) (u : Value), [a, b][j]? = some u → (w.alloc (.cells #[a, b] t)).cell? ((⟨w.heap.size, 0, none⟩ : Addr).add j) = some u := by
  intro j u h
  match j with
  | 0 => simp at h; subst h; simp [Addr.add]
  | 1 => simp at h; subst h; simp [Addr.add]
  | j + 2 => simp at h
theorem list_emp {s : ByteArray} (h : s.size = 0) : (s.toList == []) = true := by
  have := isEmpty_zero h
  rw [List.isEmpty_iff] at this
  rw [this]; rfl
theorem pieces_len (s : ByteArray) : (pieces s).length ≤ s.size + 1 := by
  unfold pieces
  rw [Lib.splitB_all ⟨#[59]⟩ (by decide) 0 _ s rfl]
  have := Lib.countB_le ⟨#[59]⟩ (by decide) s.size s (Nat.le_refl _)
  omega
theorem take_item {l : List ByteArray} {k : Nat} {x : ByteArray} (h : l[k]? = some x) : (l.take (k + 1)).filterMap item = (l.take k).filterMap item ++ (item x).toList := by
  have e : (some x).toList.filterMap item = (item x).toList := by cases hi : item x <;> simp [hi]
  rw [List.take_add_one, h, List.filterMap_append, e]

theorem own_below {w w' : World} {B : Nat} {e : TypeId} {size n : Nat} {v : Value} {xs : List Value} (h : w.ownsRow B e size v n xs) (hb : Below w.heap.size w w') : w'.ownsRow B e size v n xs :=
  World.ownsRow.kept (row := none) h ⟨hb.os, hb.tape, hb.output, hb.size, fun k hk _ => hb.block k hk⟩ (by
    cases hv : v.ownBlock with
    | none => exact .inl rfl
    | some k => exact .inr (by simp))

set_option maxHeartbeats 2000000 in
theorem items_any (s : ByteArray) (m : Int) (w : World) (hs : s.size ≤ 1000000) (hm : w.cell? ⟨0, 0, none⟩ = some (.int .i64 m)) :
    Calls Tryd.prog 16 #[.string s] w fun e w' => (∃ v, e = .returned v ∧ Attrs w' (w.heap.size + 1) v (items s)) ∧ Below w.heap.size w w' := by
  obtain ⟨i0, hi0, hz0, hz1, hz2⟩ := info_parts info_attr
  have h0lt : 0 < w.heap.size := World.block_lt_of_cell? w _ hm
  have hS := split_any s m w (by omega) hm
  have hsz : ∀ x ∈ pieces s, x.size ≤ 1000000 := fun x hx => Nat.le_trans (piece_le s x hx) hs
  have hlen := pieces_len s
  unfold items
  generalize pieces s = Ps at *
  have hm' := Lib.hid hm; clear hm
  have hsz' := Lib.hid hsz; clear hsz
  have hlen2 : Ps.length ≤ 1000001 := by omega
  clear hlen
  obtain ⟨n, hn⟩ : ∃ n, Ps.length = n := ⟨_, rfl⟩
  rw [hn] at hS hlen2
  have hS' := Lib.hid hS; clear hS
  have hn' := Lib.hid hn; clear hn
  have hi0' := Lib.hid hi0; clear hi0
  have hz0' := Lib.hid hz0; clear hz0
  have hz1' := Lib.hid hz1; clear hz1
  have hz2' := Lib.hid hz2; clear hz2
  go_enter Tryd.func16, Tryd.ntmps16
  go_wp2_with fail
  refine hS'.out.mono ?_
  rintro e w' ⟨rfl, rfl⟩
  go_wp2_with fail
  go_loopw [3, 12] (fun s3 s12 wr => ∃ k : Nat, s12 = .int .i64 k ∧ k ≤ n ∧ Hid (Attrs wr (w.heap.size + 1) s3 ((Ps.take k).filterMap item)) ∧ Hid (Blk wr w.heap.size 9 (Ps.map Value.string).toArray) ∧ Hid (Below w.heap.size w wr)) (fun _ s12 _ => n - (intOf s12).toNat)
  case atStart =>
    refine ⟨0, rfl, by omega, ?_, ?_, ?_⟩
    · exact World.ownsRow_nil _ _ _ _
    · exact Blk.new _ _ _
    · exact (Below.refl _ _).alloc (Nat.le_refl _) _
  case round =>
    obtain ⟨k, rfl, hk, ho, hB, hb⟩ := hrel
    by_cases hkn : k < n
    · obtain ⟨x, hx⟩ : ∃ x, Ps[k]? = some x := ⟨_, List.getElem?_eq_getElem (by rw [hn'.out]; exact hkn)⟩
      have c0 : wr.cell? ⟨w.heap.size, k, none⟩ = some (.string x) := by
        rw [hB.out.cell k]; simp [hx]
      have hxs := hsz'.out x (List.mem_of_getElem? hx)
      have hmr : wr.cell? ⟨0, 0, none⟩ = some (.int .i64 m) := (World.cell?_of_block (hb.out.block 0 h0lt)).trans hm'.out
      have hC := cut_any x m wr (by omega) hmr
      have hK := fun W => key_any (cutK x) W
      have hit : item x = if keyF (cutK x) && decide (0 < (cutV x).size) then some (cutK x, cutV x) else none := rfl
      have htake := take_item hx
      unfold keyF at hit
      have hlk : ((Ps.take k).filterMap item).length ≤ k := Nat.le_trans (List.length_filterMap_le _ _) (by simp; omega)
      generalize hacc : (Ps.take k).filterMap item = acc at *
      generalize keyS (bs (cutK x)) = b at *
      generalize cutK x = kx at *
      generalize cutV x = vx at *
      have hC' := Lib.hid hC; clear hC hxs hmr
      have hK' := Lib.hid hK; clear hK hx hacc
      have hlk' := Lib.hid hlk; clear hlk
      have htake' := Lib.hid htake; clear htake
      have hit' := Lib.hid hit; clear hit
      cases b with
      | false =>
        have hend : Attrs wr (w.heap.size + 1) u3 ((Ps.take (k + 1)).filterMap item) := by
          rw [htake'.out, hit'.out]
          simpa using ho.out
        have hend' := Lib.hid hend; clear hend ho htake' hit'
        go_wp2_with fail
        refine hC'.out.mono ?_
        rintro e v1 ⟨rfl, nd, rfl⟩
        go_wp2_with fail
        refine (hK'.out _).mono ?_
        rintro e v2 ⟨rfl, hb2⟩
        have hbk : Below w.heap.size w v2 := (below_drawN hb.out nd).trans (hb2.mono (below_drawN hb.out nd).size)
        have hBk : Blk v2 w.heap.size 9 (Ps.map Value.string).toArray := (hB.out.drewN nd).below hb2 (hB.out.drewN nd).lt
        have hok : Attrs v2 (w.heap.size + 1) u3 ((Ps.take (k + 1)).filterMap item) := own_below (own_below hend'.out (below_drawN (Below.refl _ _) nd)) hb2
        have hbk' := Lib.hid hbk; clear hbk hb hb2
        have hBk' := Lib.hid hBk; clear hBk hB
        have hok' := Lib.hid hok; clear hok hend'
        go_wp2_with fail
        go_roundw
        case rel => exact ⟨k + 1, by go_num, by omega, hok', hBk', hbk'⟩
        case measure => simp [intOf]; omega
      | true =>
        by_cases hv0 : 0 < vx.size
        · have ev : (vx.toList == []) = false := list_ne vx hv0
          have hend : (Ps.take (k + 1)).filterMap item = acc ++ [(kx, vx)] := by
            rw [htake'.out, hit'.out, if_pos (by simp [hv0])]
            rfl
          have hend' := Lib.hid hend; clear hend htake' hit'
          go_wp2_with fail
          refine hC'.out.mono ?_
          rintro e v1 ⟨rfl, nd, rfl⟩
          go_wp2_with fail
          refine (hK'.out _).mono ?_
          rintro e v2 ⟨rfl, hb2⟩
          have hbk : Below w.heap.size w v2 := (below_drawN hb.out nd).trans (hb2.mono (below_drawN hb.out nd).size)
          have hBk : Blk v2 w.heap.size 9 (Ps.map Value.string).toArray := (hB.out.drewN nd).below hb2 (hB.out.drewN nd).lt
          have hok : Attrs v2 (w.heap.size + 1) u3 acc := own_below (own_below ho.out (below_drawN (Below.refl _ _) nd)) hb2
          have hbk' := Lib.hid hbk; clear hbk hb hb2
          have hlt2 : w.heap.size + 1 ≤ v2.heap.size := hBk.lt
          have hBk' := Lib.hid hBk; clear hBk hB
          have hok' := Lib.hid hok; clear hok ho
          have hl' := hlk'.out
          go_wp2_with (at_builtin; refine wpList_append_own _ rfl (.tmp 28) (.tmp 32) 42 rfl (w.heap.size + 1) 46 i0 (.agg #[.string ⟨#[]⟩, .string ⟨#[]⟩]) 2 32 Tryd.underlying42 hi0'.out hz0'.out hz1'.out hz2'.out rfl (by decide) u3 acc.length (flatA acc) rfl (own_below hok'.out (Below.alloc (Below.refl _ _) (Nat.le_refl _) _)) ⟨v2.heap.size, 0, none⟩ 1 1 [.string kx, .string vx] rfl rfl (cell_two_new _ _ _ _) (by intro u hu; simp at hu; rcases hu with rfl | rfl <;> rfl) (by simp only [maxLen]; omega) (by omega) (by simp; omega) ?_; intro v' w1 hown' hgrow _)
          go_roundw
          case rel =>
            refine ⟨k + 1, by go_num, by omega, ?_, ?_, ?_⟩
            · show Attrs w1 _ _ _
              rw [hend'.out]
              unfold Attrs
              rw [flatA_app, List.length_append]
              exact hown'
            · have h1 := hBk'.out.alloc (.cells #[.string kx, .string vx] 46)
              refine h1.same (hgrow.block _ (by simp; omega) fun e => ?_)
              have := hok'.out.lt _ e.symm
              omega
            · exact (hbk'.out.alloc (Nat.le_trans (Nat.le_succ _) hlt2) _).grown hgrow (by simp; omega) (fun k e => by have := hok'.out.lt _ e; omega)
          case measure => simp [intOf]; omega
        · have ev : (vx.toList == []) = true := list_emp (by omega)
          have hend : Attrs wr (w.heap.size + 1) u3 ((Ps.take (k + 1)).filterMap item) := by
            rw [htake'.out, hit'.out, if_neg (by simp [hv0])]
            simpa using ho.out
          have hend' := Lib.hid hend; clear hend ho htake' hit'
          go_wp2_with fail
          refine hC'.out.mono ?_
          rintro e v1 ⟨rfl, nd, rfl⟩
          go_wp2_with fail
          refine (hK'.out _).mono ?_
          rintro e v2 ⟨rfl, hb2⟩
          have hbk : Below w.heap.size w v2 := (below_drawN hb.out nd).trans (hb2.mono (below_drawN hb.out nd).size)
          have hBk : Blk v2 w.heap.size 9 (Ps.map Value.string).toArray := (hB.out.drewN nd).below hb2 (hB.out.drewN nd).lt
          have hok : Attrs v2 (w.heap.size + 1) u3 ((Ps.take (k + 1)).filterMap item) := own_below (own_below hend'.out (below_drawN (Below.refl _ _) nd)) hb2
          have hbk' := Lib.hid hbk; clear hbk hb hb2
          have hBk' := Lib.hid hBk; clear hBk hB
          have hok' := Lib.hid hok; clear hok hend'
          go_wp2_with fail
          go_roundw
          case rel => exact ⟨k + 1, by go_num, by omega, hok', hBk', hbk'⟩
          case measure => simp [intOf]; omega
    · obtain rfl : k = n := by omega
      have hall : Attrs wr (w.heap.size + 1) u3 (Ps.filterMap item) := by
        have := ho.out
        rwa [List.take_of_length_le (by rw [hn'.out]; exact Nat.le_refl _)] at this
      have hall' := Lib.hid hall; clear hall ho
      go_wp2_with fail
      go_ret
      exact ⟨⟨_, rfl, hall'.out⟩, hb.out⟩

set_option maxHeartbeats 2000000 in
theorem ritems_any (s : ByteArray) (m : Int) (w : World) (hs : s.size ≤ 1000000) (hm : w.cell? ⟨0, 0, none⟩ = some (.int .i64 m)) :
    Calls Tryd.prog 19 #[.string s] w fun e w' => (∃ v, e = .returned v ∧ Attrs w' (w.heap.size + 1) v (items s)) ∧ Below w.heap.size w w' := by
  obtain ⟨i0, hi0, hz0, hz1, hz2⟩ := info_parts info_attr
  have h0lt : 0 < w.heap.size := World.block_lt_of_cell? w _ hm
  have hS := split_any s m w (by omega) hm
  have hsz : ∀ x ∈ pieces s, x.size ≤ 1000000 := fun x hx => Nat.le_trans (piece_le s x hx) hs
  have hlen := pieces_len s
  unfold items
  generalize pieces s = Ps at *
  have hm' := Lib.hid hm; clear hm
  have hsz' := Lib.hid hsz; clear hsz
  have hlen2 : Ps.length ≤ 1000001 := by omega
  clear hlen
  obtain ⟨n, hn⟩ : ∃ n, Ps.length = n := ⟨_, rfl⟩
  rw [hn] at hS hlen2
  have hS' := Lib.hid hS; clear hS
  have hn' := Lib.hid hn; clear hn
  have hi0' := Lib.hid hi0; clear hi0
  have hz0' := Lib.hid hz0; clear hz0
  have hz1' := Lib.hid hz1; clear hz1
  have hz2' := Lib.hid hz2; clear hz2
  go_enter Tryd.func19, Tryd.ntmps19
  go_wp2_with fail
  refine hS'.out.mono ?_
  rintro e w' ⟨rfl, rfl⟩
  go_wp2_with fail
  go_loopw [3, 5] (fun s3 s5 wr => ∃ k : Nat, s5 = .int .i64 k ∧ k ≤ n ∧ Hid (Attrs wr (w.heap.size + 1) s3 ((Ps.take k).filterMap item)) ∧ Hid (Blk wr w.heap.size 9 (Ps.map Value.string).toArray) ∧ Hid (Below w.heap.size w wr)) (fun _ s5 _ => n - (intOf s5).toNat)
  case atStart =>
    refine ⟨0, rfl, by omega, ?_, ?_, ?_⟩
    · exact World.ownsRow_nil _ _ _ _
    · exact Blk.new _ _ _
    · exact (Below.refl _ _).alloc (Nat.le_refl _) _
  case round =>
    obtain ⟨k, rfl, hk, ho, hB, hb⟩ := hrel
    by_cases hkn : k < n
    · obtain ⟨x, hx⟩ : ∃ x, Ps[k]? = some x := ⟨_, List.getElem?_eq_getElem (by rw [hn'.out]; exact hkn)⟩
      have c0 : wr.cell? ⟨w.heap.size, k, none⟩ = some (.string x) := by
        rw [hB.out.cell k]; simp [hx]
      have hxs := hsz'.out x (List.mem_of_getElem? hx)
      have hmr : wr.cell? ⟨0, 0, none⟩ = some (.int .i64 m) := (World.cell?_of_block (hb.out.block 0 h0lt)).trans hm'.out
      have hC := cut_any x m wr (by omega) hmr
      have hK := fun W => rkey_any (cutK x) W
      have hno : cutOk x = false → (cutV x).size = 0 := cut_no x
      have hit : item x = if keyF (cutK x) && decide (0 < (cutV x).size) then some (cutK x, cutV x) else none := rfl
      have htake := take_item hx
      unfold keyF at hit
      have hlk : ((Ps.take k).filterMap item).length ≤ k := Nat.le_trans (List.length_filterMap_le _ _) (by simp; omega)
      generalize hacc : (Ps.take k).filterMap item = acc at *
      generalize keyS (bs (cutK x)) = b at *
      generalize cutOk x = okx at *
      generalize cutK x = kx at *
      generalize cutV x = vx at *
      have hC' := Lib.hid hC; clear hC hxs hmr
      have hK' := Lib.hid hK; clear hK hx hacc
      have hlk' := Lib.hid hlk; clear hlk
      have htake' := Lib.hid htake; clear htake
      have hit' := Lib.hid hit; clear hit
      cases okx with
      | false =>
        have hv0 : vx.size = 0 := hno rfl
        clear hno
        have hend : Attrs wr (w.heap.size + 1) u3 ((Ps.take (k + 1)).filterMap item) := by
          rw [htake'.out, hit'.out, if_neg (by simp [hv0])]
          simpa using ho.out
        have hend' := Lib.hid hend; clear hend ho htake' hit' hv0
        go_wp2_with fail
        refine hC'.out.mono ?_
        rintro e v1 ⟨rfl, nd, rfl⟩
        have hbk' := Lib.hid (below_drawN hb.out nd); clear hb
        have hBk' := Lib.hid (hB.out.drewN nd); clear hB
        have hok' : Hid (Attrs (wr.drewN nd) (w.heap.size + 1) u3 ((Ps.take (k + 1)).filterMap item)) := own_below hend'.out (below_drawN (Below.refl _ _) nd)
        clear hend'
        go_wp2_with fail
        go_roundw
        case rel => exact ⟨k + 1, by go_num, by omega, hok', hBk', hbk'⟩
        case measure => simp [intOf]; omega
      | true =>
        clear hno
        cases b with
        | false =>
          have hend : Attrs wr (w.heap.size + 1) u3 ((Ps.take (k + 1)).filterMap item) := by
            rw [htake'.out, hit'.out]
            simpa using ho.out
          have hend' := Lib.hid hend; clear hend ho htake' hit'
          go_wp2_with fail
          refine hC'.out.mono ?_
          rintro e v1 ⟨rfl, nd, rfl⟩
          go_wp2_with fail
          refine (hK'.out _).mono ?_
          rintro e v2 ⟨rfl, hb2⟩
          have hbk : Below w.heap.size w v2 := (below_drawN hb.out nd).trans (hb2.mono (below_drawN hb.out nd).size)
          have hBk : Blk v2 w.heap.size 9 (Ps.map Value.string).toArray := (hB.out.drewN nd).below hb2 (hB.out.drewN nd).lt
          have hok : Attrs v2 (w.heap.size + 1) u3 ((Ps.take (k + 1)).filterMap item) := own_below (own_below hend'.out (below_drawN (Below.refl _ _) nd)) hb2
          have hbk' := Lib.hid hbk; clear hbk hb hb2
          have hBk' := Lib.hid hBk; clear hBk hB
          have hok' := Lib.hid hok; clear hok hend'
          go_wp2_with fail
          go_roundw
          case rel => exact ⟨k + 1, by go_num, by omega, hok', hBk', hbk'⟩
          case measure => simp [intOf]; omega
        | true =>
          by_cases hv0 : 0 < vx.size
          · have ev : (vx.toList == []) = false := list_ne vx hv0
            have hend : (Ps.take (k + 1)).filterMap item = acc ++ [(kx, vx)] := by
              rw [htake'.out, hit'.out, if_pos (by simp [hv0])]
              rfl
            have hend' := Lib.hid hend; clear hend htake' hit'
            go_wp2_with fail
            refine hC'.out.mono ?_
            rintro e v1 ⟨rfl, nd, rfl⟩
            go_wp2_with fail
            refine (hK'.out _).mono ?_
            rintro e v2 ⟨rfl, hb2⟩
            have hbk : Below w.heap.size w v2 := (below_drawN hb.out nd).trans (hb2.mono (below_drawN hb.out nd).size)
            have hBk : Blk v2 w.heap.size 9 (Ps.map Value.string).toArray := (hB.out.drewN nd).below hb2 (hB.out.drewN nd).lt
            have hok : Attrs v2 (w.heap.size + 1) u3 acc := own_below (own_below ho.out (below_drawN (Below.refl _ _) nd)) hb2
            have hbk' := Lib.hid hbk; clear hbk hb hb2
            have hlt2 : w.heap.size + 1 ≤ v2.heap.size := hBk.lt
            have hBk' := Lib.hid hBk; clear hBk hB
            have hok' := Lib.hid hok; clear hok ho
            have hl' := hlk'.out
            go_wp2_with (at_builtin; refine wpList_append_own _ rfl (.tmp 35) (.tmp 39) 42 rfl (w.heap.size + 1) 46 i0 (.agg #[.string ⟨#[]⟩, .string ⟨#[]⟩]) 2 32 Tryd.underlying42 hi0'.out hz0'.out hz1'.out hz2'.out rfl (by decide) u3 acc.length (flatA acc) rfl (own_below hok'.out (Below.alloc (Below.refl _ _) (Nat.le_refl _) _)) ⟨v2.heap.size, 0, none⟩ 1 1 [.string kx, .string vx] rfl rfl (cell_two_new _ _ _ _) (by intro u hu; simp at hu; rcases hu with rfl | rfl <;> rfl) (by simp only [maxLen]; omega) (by omega) (by simp; omega) ?_; intro v' w1 hown' hgrow _)
            go_roundw
            case rel =>
              refine ⟨k + 1, by go_num, by omega, ?_, ?_, ?_⟩
              · show Attrs w1 _ _ _
                rw [hend'.out]
                unfold Attrs
                rw [flatA_app, List.length_append]
                exact hown'
              · have h1 := hBk'.out.alloc (.cells #[.string kx, .string vx] 46)
                refine h1.same (hgrow.block _ (by simp; omega) fun e => ?_)
                have := hok'.out.lt _ e.symm
                omega
              · exact (hbk'.out.alloc (Nat.le_trans (Nat.le_succ _) hlt2) _).grown hgrow (by simp; omega) (fun k e => by have := hok'.out.lt _ e; omega)
            case measure => simp [intOf]; omega
          · have ev : (vx.toList == []) = true := list_emp (by omega)
            have hend : Attrs wr (w.heap.size + 1) u3 ((Ps.take (k + 1)).filterMap item) := by
              rw [htake'.out, hit'.out, if_neg (by simp [hv0])]
              simpa using ho.out
            have hend' := Lib.hid hend; clear hend ho htake' hit'
            go_wp2_with fail
            refine hC'.out.mono ?_
            rintro e v1 ⟨rfl, nd, rfl⟩
            go_wp2_with fail
            refine (hK'.out _).mono ?_
            rintro e v2 ⟨rfl, hb2⟩
            have hbk : Below w.heap.size w v2 := (below_drawN hb.out nd).trans (hb2.mono (below_drawN hb.out nd).size)
            have hBk : Blk v2 w.heap.size 9 (Ps.map Value.string).toArray := (hB.out.drewN nd).below hb2 (hB.out.drewN nd).lt
            have hok : Attrs v2 (w.heap.size + 1) u3 ((Ps.take (k + 1)).filterMap item) := own_below (own_below hend'.out (below_drawN (Below.refl _ _) nd)) hb2
            have hbk' := Lib.hid hbk; clear hbk hb hb2
            have hBk' := Lib.hid hBk; clear hBk hB
            have hok' := Lib.hid hok; clear hok hend'
            go_wp2_with fail
            go_roundw
            case rel => exact ⟨k + 1, by go_num, by omega, hok', hBk', hbk'⟩
            case measure => simp [intOf]; omega
    · obtain rfl : k = n := by omega
      have hall : Attrs wr (w.heap.size + 1) u3 (Ps.filterMap item) := by
        have := ho.out
        rwa [List.take_of_length_le (by rw [hn'.out]; exact Nat.le_refl _)] at this
      have hall' := Lib.hid hall; clear hall ho
      go_wp2_with fail
      go_ret
      exact ⟨⟨_, rfl, hall'.out⟩, hb.out⟩

end Go.Proofs.YtgjnohkcnfdmkaaDoor
