/-
  THE WALK of lexer.Format: the line of tokens.
-/
import Derived.Test.YtofemhaepadggaaDoorLexProper
import Derived.Deep.AppendLies
namespace Go.Proofs.YtofemhaepadggaaDoor
open Go.RowKit

/-- Tokens somewhere in memory, however many. -/
def TokRow (w : World) (v : Value) (l : List TB) : Prop :=
  (v = .slice none 0 0 ∧ l = []) ∨ ∃ g o cap, v = .slice (some ⟨g, o, none⟩) l.length cap ∧ g < w.heap.size ∧
    ∀ (k : Nat) (x : TB), l[k]? = some x → w.cell? ⟨g, o + k * 4, none⟩ = some (.string x.k) ∧ w.cell? ⟨g, o + k * 4 + 1, none⟩ = some (.string x.n) ∧ w.cell? ⟨g, o + k * 4 + 2, none⟩ = some (.string x.o) ∧ w.cell? ⟨g, o + k * 4 + 3, none⟩ = some (.string x.v)
theorem TokAt.row {w : World} {v : Value} {l : List TB} (h : TokAt w v l) : TokRow w v l := h.2
def nameB (n : ByteArray) : ByteArray := if n.size = 0 then n else (⟨#[123]⟩ : ByteArray) ++ n ++ (⟨#[125]⟩ : ByteArray)
def partB (x : TB) : ByteArray := x.k ++ nameB x.n ++ x.o ++ (⟨#[34]⟩ : ByteArray) ++ escB x.v ++ (⟨#[34]⟩ : ByteArray)
theorem bs_nameB (n : ByteArray) : bs (nameB n) = if bs n = [] then [] else 123 :: bs n ++ [125] := by
  unfold nameB
  by_cases h : n.size = 0
  · have : bs n = [] := List.eq_nil_of_length_eq_zero (by rw [length_bs]; exact h)
    rw [if_pos h, if_pos this, this]
  · have : ¬ bs n = [] := fun e => h (by rw [← length_bs, e]; rfl)
    rw [if_neg h, if_neg this, bs_app, bs_app]; rfl
theorem bs_partB (x : TB) : bs (partB x) = L.one x.tok := by
  unfold partB
  rw [bs_app, bs_app, bs_app, bs_app, bs_app, bs_nameB, bs_esc]
  show _ = L.one ⟨bs x.k, bs x.n, bs x.o, bs x.v⟩
  unfold L.one
  simp only [List.append_assoc]
  rfl
theorem nameB_size (n : ByteArray) : (nameB n).size ≤ n.size + 2 := by
  unfold nameB
  split
  · omega
  · rw [ByteArray.size_append, ByteArray.size_append]
    show 1 + n.size + 1 ≤ _
    omega
theorem partB_size {x : TB} (h : Fit x) : (partB x).size ≤ 6000000 := by
  obtain ⟨h1, h2, h3, h4⟩ := h
  have e1 := nameB_size x.n
  have e2 := escB_size x.v
  have e3 : (⟨#[34]⟩ : ByteArray).size = 1 := rfl
  unfold partB
  rw [ByteArray.size_append, ByteArray.size_append, ByteArray.size_append, ByteArray.size_append, ByteArray.size_append]
  omega
theorem join_bs (xs : List ByteArray) : bs ⟨(Lib.join (xs.map (·.data.toList)) [44, 32]).toArray⟩ = L.sepFirst (xs.map bs) := by
  rw [bs_of]
  cases xs with
  | nil => rfl
  | cons x r =>
    rw [List.map_cons, Lib.join_cons, List.map_append, List.map_cons]
    unfold L.sepFirst Lib.joinTail
    rw [← bs_data, List.map_flatten, List.map_map, List.map_map]
    show _ = bs x ++ (List.map (fun x => [44, 32] ++ x) (List.map bs r)).flatten
    rw [List.map_map]
    congr 2
theorem join_len (xs : List ByteArray) (h : ∀ x ∈ xs, x.size ≤ 6000000) : (Lib.join (xs.map (·.data.toList)) [44, 32]).length ≤ xs.length * 6000002 := by
  cases xs with
  | nil => show 0 ≤ _; omega
  | cons x r =>
    rw [List.map_cons, Lib.join_cons, List.length_append]
    have h1 : x.data.toList.length ≤ 6000000 := h x (by simp)
    have h2 : ∀ r : List ByteArray, (∀ x ∈ r, x.size ≤ 6000000) → (Lib.joinTail [44, 32] (r.map (·.data.toList))).length ≤ r.length * 6000002 := by
      intro r
      induction r with
      | nil => intro _; show 0 ≤ _; omega
      | cons y r ih =>
        intro h
        have h3 := ih fun x hx => h x (by simp [hx])
        have h4 : y.data.toList.length ≤ 6000000 := h y (by simp)
        unfold Lib.joinTail at *
        simp only [List.map_cons, List.flatten_cons, List.length_append, List.length_cons, List.length_nil] at *
        omega
    have h5 := h2 r fun x hx => h x (by simp [hx])
    simp only [List.length_cons]
    omega

theorem info_strF : (Tryd.prog.info? 9).map (fun i => (i.zero, i.size, i.bytes)) = some (some (.string ⟨#[]⟩), 1, 16) := by kernel_rfl

set_option maxRecDepth 100000 in
set_option maxHeartbeats 4000000 in
theorem format_any (l : List TB) (v : Value) (m : Int) (w : World) (hl : TokRow w v l) (hl2 : l.length ≤ 2000) (hf : ∀ x ∈ l, Fit x) (hm : w.cell? ⟨0, 0, none⟩ = some (.int .i64 m)) :
    Calls Tryd.prog 12 #[v] w fun e w' => (∃ S : ByteArray, e = .returned (.tuple #[.string S, .int .i64 (L.fmt (l.map TB.tok)).2]) ∧ bs S = (L.fmt (l.map TB.tok)).1) ∧ Below w.heap.size w w' := by
  obtain ⟨i0, hi0, hz0, hz1, hz2⟩ := info_parts info_strF
  have hi0' := Lib.hid hi0; clear hi0
  have hz0' := Lib.hid hz0; clear hz0
  have hz1' := Lib.hid hz1; clear hz1
  have hz2' := Lib.hid hz2; clear hz2
  have h0lt : 0 < w.heap.size := World.block_lt_of_cell? w _ hm
  obtain ⟨F, hF⟩ : ∃ F, L.fmt (l.map TB.tok) = F := ⟨_, rfl⟩
  rw [hF]
  unfold L.fmt at hF
  rw [List.map_map] at hF
  have hF' := Lib.hid hF; clear hF
  have hJ0 := fun W => Tryd.strings_Join_none none 0 ⟨#[44, 32]⟩ W
  have hJ0' := Lib.hid hJ0; clear hJ0
  rcases hl with ⟨rfl, rfl⟩ | ⟨g, o, cap, rfl, hg, hc⟩
  · have hF2 : F = ([], 0) := by rw [← hF'.out]; rfl
    subst hF2
    clear hF' hm
    go_enter Tryd.func12, Tryd.ntmps12
    go_wp2_with fail
    go_loopw [4, 10] (fun s4 s10 wr => s4 = .slice none 0 0 ∧ s10 = .int .i64 0 ∧ wr = w) (fun _ _ _ => 0)
    case atStart => exact ⟨rfl, rfl, rfl⟩
    case round =>
      obtain ⟨rfl, rfl, rfl⟩ := hrel
      go_wp2_with fail
      refine (hJ0'.out _).mono ?_
      rintro e v1 ⟨rfl, rfl⟩
      go_wp2_with fail
      go_ret2
      exact ⟨⟨⟨#[]⟩, rfl, rfl⟩, Below.refl _ _⟩
  · obtain ⟨n, hn⟩ : ∃ n, l.length = n := ⟨_, rfl⟩
    rw [hn] at hl2 ⊢
    have hn' := Lib.hid hn; clear hn
    have hc' := Lib.hid hc; clear hc
    have hf' := Lib.hid hf; clear hf
    have hm' := Lib.hid hm; clear hm
    have keep : Hid (∀ W, Below w.heap.size w W → ∀ (k : Nat) (x : TB), l[k]? = some x → W.cell? ⟨g, o + k * 4, none⟩ = some (.string x.k) ∧ W.cell? ⟨g, o + k * 4 + 1, none⟩ = some (.string x.n) ∧ W.cell? ⟨g, o + k * 4 + 2, none⟩ = some (.string x.o) ∧ W.cell? ⟨g, o + k * 4 + 3, none⟩ = some (.string x.v)) := fun W hb k x hx => by
      have e : ∀ i, W.cell? ⟨g, i, none⟩ = w.cell? ⟨g, i, none⟩ := fun i => World.cell?_of_block (hb.block g hg)
      obtain ⟨h0, h1, h2, h3⟩ := hc'.out k x hx
      exact ⟨(e _).trans h0, (e _).trans h1, (e _).trans h2, (e _).trans h3⟩
    have keepm : Hid (∀ W, Below w.heap.size w W → W.cell? ⟨0, 0, none⟩ = some (.int .i64 m)) := fun W hb => (World.cell?_of_block (hb.block 0 h0lt)).trans hm'.out
    clear hc' hm'
    go_enter Tryd.func12, Tryd.ntmps12
    go_wp2_with fail
    go_loopw [4, 10] (fun s4 s10 wr => ∃ (k : Nat) (V : Value), s4 = V ∧ s10 = .int .i64 k ∧ k ≤ n ∧ Hid (wr.ownsRow w.heap.size 9 1 V k ((l.take k).map fun x => .string (partB x))) ∧ Hid (∀ x ∈ l.take k, L.good x.tok = true) ∧ Hid (Below w.heap.size w wr)) (fun _ s10 _ => n - (intOf s10).toNat)
    case atStart => exact ⟨0, .slice none 0 0, rfl, rfl, by omega, World.ownsRow_nil _ _ _ _, (show ∀ x ∈ l.take 0, L.good x.tok = true from fun x hx => by simp at hx), Below.refl _ _⟩
    case round =>
      obtain ⟨k, V, hV, rfl, hk, hown, hgd, hb⟩ := hrel
      have hV2 := hV.symm
      clear hV
      subst hV2
      by_cases hkn : k < n
      · obtain ⟨x, hx⟩ : ∃ x, l[k]? = some x := ⟨_, List.getElem?_eq_getElem (by have := hn'.out; omega)⟩
        have hfx := hf'.out x (List.mem_of_getElem? hx)
        obtain ⟨c0, c1, c2, c3⟩ := keep.out wr hb.out k x hx
        have hP := fun W => proper_any x W hfx
        have ik : (k : Int) < (n : Int) := by omega
        have ik0 : (0 : Int) ≤ (k : Int) := by omega
        have hx' := Lib.hid hx; clear hx
        have hfx' := Lib.hid hfx; clear hfx
        have hP' := Lib.hid hP; clear hP
        go_wp2_with fail
        have hX : Hid (Blk (wr.alloc (.cells #[.string x.k, .string x.n, .string x.o, .string x.v] 40)) wr.heap.size 40 #[.string x.k, .string x.n, .string x.o, .string x.v]) := Blk.new _ _ _
        have hO : Hid (Only (fun i => i = wr.heap.size) wr (wr.alloc (.cells #[.string x.k, .string x.n, .string x.o, .string x.v] 40))) := (Only.refl _ _).alloc _
        clear c0 c1 c2 c3
        generalize wr.alloc (.cells #[.string x.k, .string x.n, .string x.o, .string x.v] 40) = w2 at *
        have hwr := hb.out.size
        obtain ⟨b, hbz⟩ : ∃ b, wr.heap.size = b := ⟨_, rfl⟩
        rw [hbz] at hX hO hwr ⊢
        have hbz' := Lib.hid hbz; clear hbz
        refine (hP'.out _).mono ?_
        rintro e v1 ⟨rfl, hb1⟩
        have hX1 : Hid (Blk v1 b 40 #[.string x.k, .string x.n, .string x.o, .string x.v]) := hX.out.below hb1 hX.out.lt
        have hO1 : Hid (Only (fun i => i = b) wr v1) := hO.out.step (Only.of_below (S := fun _ => False) hb1 fun k h1 h2 => by omega) fun i hi => hi.elim
        clear hX hO hb1 hP'
        have hB1 : Hid (Below w.heap.size w v1) := hb.out.trans (hO1.out.below (fun k e => by have e : k = b := e; omega) hb.out.size)
        cases hgx : L.good x.tok with
        | false =>
          have hF2 : F = ([], 82) := by
            rw [← hF'.out, if_pos]
            rw [List.all_eq_false]
            exact ⟨_, List.mem_map.2 ⟨_, List.mem_of_getElem? hx'.out, rfl⟩, by rw [hgx]; simp⟩
          have hF3 := Lib.hid hF2; clear hF2 hgx
          go_wp2_with fail
          go_ret2
          rw [hF3.out]
          exact ⟨⟨⟨#[]⟩, rfl, rfl⟩, hB1.out⟩
        | true =>
          have hgd2 : Hid (∀ x ∈ l.take (k + 1), L.good x.tok = true) := fun y hy => by
            rw [List.take_add_one, hx'.out] at hy
            rcases List.mem_append.1 hy with hy | hy
            · exact hgd.out y hy
            · simp at hy; subst hy; exact hgx
          have hps : Hid ((l.take (k + 1)).map (fun x => Value.string (partB x)) = (l.take k).map (fun x => Value.string (partB x)) ++ [.string (partB x)]) := by
            show (l.take (k + 1)).map (fun x => Value.string (partB x)) = _
            rw [List.take_add_one, hx'.out, List.map_append]; rfl
          have hpart : Hid (partB x = x.k ++ nameB x.n ++ x.o ++ (⟨#[34]⟩ : ByteArray) ++ escB x.v ++ (⟨#[34]⟩ : ByteArray)) := rfl
          have hE : ∀ W, Below w.heap.size w W → Calls Tryd.prog 28 #[.string x.v, .string ⟨#[34]⟩, .string ⟨#[92, 34]⟩] W fun e w' => e = .returned (.string (escB x.v)) ∧ Below W.heap.size W w' := fun W h => esc_any x.v m W (by have := hfx'.out.2.2.2; omega) (keepm.out W h)
          have hesz := escB_size x.v
          have hnsz := nameB_size x.n
          have hnm : Hid (nameB x.n = if x.n.size = 0 then x.n else (⟨#[123]⟩ : ByteArray) ++ x.n ++ (⟨#[125]⟩ : ByteArray)) := rfl
          obtain ⟨f1, f2, f3, f4⟩ := hfx'.out
          clear hgx hgd hfx'
          have hE' := Lib.hid hE; clear hE
          generalize hPx : partB x = px at *
          generalize hev : escB x.v = ev at *
          generalize hnb : nameB x.n = nb at *
          clear hPx hev hnb
          obtain ⟨ka, na, oa, va⟩ := x
          simp only at f1 f2 f3 f4 hX1 hpart hE' hesz hnsz hnm
          have c0 := hX1.out.cell 0
          have c1 := hX1.out.cell 1
          have c2 := hX1.out.cell 2
          have c3 := hX1.out.cell 3
          simp only [List.getElem?_toArray, List.getElem?_cons_zero, List.getElem?_cons_succ] at c0 c1 c2 c3
          have fz := hX1.out.frozen 1
          obtain ⟨b2, he1, hbk2⟩ : ∃ b2 : Bool, (na.toList == []) = b2 ∧ ((b2 = true ∧ na.size = 0) ∨ (b2 = false ∧ na.size ≠ 0)) := by
            by_cases hn0 : na.size = 0
            · exact ⟨true, list_emp hn0, .inl ⟨rfl, hn0⟩⟩
            · exact ⟨false, list_ne na (by omega), .inr ⟨rfl, hn0⟩⟩
          have he2 : na.toList.isEmpty = b2 := by rw [← he1]; cases na.toList <;> rfl
          have hbk2' := Lib.hid hbk2; clear hbk2
          go_upto_if 19 with fail
          clear he1 he2
          go_cut [] (fun wc => Blk wc b 40 #[.string ka, .string nb, .string oa, .string va] ∧ Only (fun i => i = b) v1 wc)
          case first =>
            cases b2 with
            | true =>
              have hn0' : Hid (na.size = 0) := Lib.hid (by simpa using hbk2'.out)
              have hnb : Hid (nb = na) := by
                show nb = na
                rw [hnm.out, if_pos hn0'.out]
              clear hnm hbk2' hn0'
              go_wp2_with fail
              go_meet
              case rel => exact ⟨by rw [hnb.out]; exact hX1.out, Only.refl _ _⟩
            | false =>
              have hn0' : Hid (na.size ≠ 0) := Lib.hid (by simpa using hbk2'.out)
              have hnb : Hid (nb = (⟨#[123]⟩ : ByteArray) ++ na ++ (⟨#[125]⟩ : ByteArray)) := by
                show nb = _
                rw [hnm.out, if_neg hn0'.out]
              clear hnm hbk2' hn0'
              have hz1 : (⟨#[123]⟩ : ByteArray).size = 1 := rfl
              have hz2 : (⟨#[125]⟩ : ByteArray).size = 1 := rfl
              go_wp2_with fail
              go_meet
              case rel => exact ⟨by rw [hnb.out]; exact hX1.out.store 1 _, Only.setCell (S := fun i => i = b) (Only.refl _ _) (p := ⟨b, 1, none⟩) (.inl rfl) _⟩
          case rest =>
            obtain ⟨hX2, hO2⟩ := hcut
            have hX3 := Lib.hid hX2; clear hX2
            have hO3 : Hid (Only (fun i => i = b) wr wc) := hO1.out.step hO2 fun i hi => .inl hi
            have hB3 : Hid (Below w.heap.size w wc) := hb.out.trans (hO3.out.below (fun k e => by have e : k = b := e; omega) hb.out.size)
            have hgl : Hid (∀ gg, V.ownBlock = some gg → w.heap.size ≤ gg ∧ gg < b) := fun gg h => by
              have := hown.out.lt gg h
              rw [hbz'.out] at this
              exact this
            have hown3 : Hid (wc.ownsRow w.heap.size 9 1 V k ((l.take k).map fun x => .string (partB x))) := own_only hown.out hO3.out fun gg h e => by
              have := hgl.out gg h
              have e : gg = b := e
              omega
            clear c0 c1 c2 c3 fz hX1 hO1 hO2 hB1 hown hbk2' hnm
            have c0 := hX3.out.cell 0
            have c1 := hX3.out.cell 1
            have c2 := hX3.out.cell 2
            have c3 := hX3.out.cell 3
            simp only [List.getElem?_toArray, List.getElem?_cons_zero, List.getElem?_cons_succ] at c0 c1 c2 c3
            have hbc := hX3.out.lt
            have hS0 : Below w.heap.size w wc ∧ wc.cell? ⟨b, 0, none⟩ = some (.string ka) ∧ wc.cell? ⟨b, 1, none⟩ = some (.string nb) ∧ wc.cell? ⟨b, 2, none⟩ = some (.string oa) ∧ wc.cell? ⟨b, 3, none⟩ = some (.string va) := ⟨hB3.out, c0, c1, c2, c3⟩
            have hS1 : Below w.heap.size w wc.drew ∧ wc.drew.cell? ⟨b, 0, none⟩ = some (.string ka) ∧ wc.drew.cell? ⟨b, 1, none⟩ = some (.string nb) ∧ wc.drew.cell? ⟨b, 2, none⟩ = some (.string oa) ∧ wc.drew.cell? ⟨b, 3, none⟩ = some (.string va) := ⟨Below.drew hB3.out, c0, c1, c2, c3⟩
            have hkp : ∀ y, Only (fun i => w.heap.size ≤ i ∧ i ≠ b) wc y → Below w.heap.size w y ∧ y.cell? ⟨b, 0, none⟩ = some (.string ka) ∧ y.cell? ⟨b, 1, none⟩ = some (.string nb) ∧ y.cell? ⟨b, 2, none⟩ = some (.string oa) ∧ y.cell? ⟨b, 3, none⟩ = some (.string va) := fun y h => by
              have e : ∀ i, y.cell? ⟨b, i, none⟩ = wc.cell? ⟨b, i, none⟩ := fun i => World.cell?_of_block (h.block b hbc fun hh => hh.2 rfl)
              exact ⟨hB3.out.trans (h.below (fun k e => e.1) hB3.out.size), (e _).trans c0, (e _).trans c1, (e _).trans c2, (e _).trans c3⟩
            have hon1 : ∀ y, Below wc.drew.heap.size wc.drew y → Only (fun _ => False) wc y := fun y h => (Only.refl _ wc).drew.step (Only.of_below (S := fun _ => False) h fun k h1 h2 => by omega) fun i hi => hi.elim
            have hon2 : ∀ y o, Below wc.drew.heap.size wc.drew y → Only (fun _ => False) wc (y.alloc o) := fun y o h => (hon1 y h).alloc o
            have hon3 : ∀ y o z, Below wc.drew.heap.size wc.drew y → (y.alloc o).grownBy z V.ownBlock → Only (fun i => w.heap.size ≤ i ∧ i ≠ b) wc z := fun y o z h hg => ((hon2 y o h).mono fun _ hh => hh.elim).grown hg fun kk hk => by
              have := hgl.out kk hk
              exact .inl ⟨this.1, by omega⟩
            have hownA : ∀ y o, Below wc.drew.heap.size wc.drew y → (y.alloc o).ownsRow w.heap.size 9 1 V k ((l.take k).map fun x => .string (partB x)) := fun y o h => own_only hown3.out (hon2 y o h) fun gg hgg e => e
            have hk1 := fun y h => hkp y ((hon1 y h).mono fun _ hh => hh.elim)
            have hk2 := fun y o h => hkp (y.alloc o) ((hon2 y o h).mono fun _ hh => hh.elim)
            have hk3 := fun y o z h hg => hkp z (hon3 y o z h hg)
            have hbse : ∀ y o, Below wc.drew.heap.size wc.drew y → w.heap.size ≤ (y.alloc o).heap.size := fun y o h => by
              have h1 := (hon2 y o h).size
              have h2 := hB3.out.size
              omega
            have hm63 : k + 1 ≤ maxLen := by simp only [maxLen]; omega
            have hmby : (k + 1) * 16 ≤ 140737488355328 := by omega
            have n1 : ¬ (9223372036854775807 < ka.size + nb.size) := by omega
            have n2 : ¬ (9223372036854775807 < ka.size + nb.size + oa.size) := by omega
            have n3 : ¬ (9223372036854775807 < ka.size + nb.size + oa.size + 1) := by omega
            have n4 : ¬ (9223372036854775807 < ka.size + nb.size + oa.size + 1 + ev.size) := by omega
            have n5 : ¬ (9223372036854775807 < ka.size + nb.size + oa.size + 1 + ev.size + 1) := by omega
            have hk1' := Lib.hid hk1; clear hk1
            have hk2' := Lib.hid hk2; clear hk2
            have hk3' := Lib.hid hk3; clear hk3
            have hon3' := Lib.hid hon3; clear hon3
            have hownA' := Lib.hid hownA; clear hownA
            have hbse' := Lib.hid hbse; clear hbse hkp hon1 hon2
            go_upto_region 9 with fail
            (first | (go_must (go_region_held3 (fun w' => Below w.heap.size w w' ∧ w'.cell? ⟨b, 0, none⟩ = some (.string ka) ∧ w'.cell? ⟨b, 1, none⟩ = some (.string nb) ∧ w'.cell? ⟨b, 2, none⟩ = some (.string oa) ∧ w'.cell? ⟨b, 3, none⟩ = some (.string va))
              ((first
                | exact hS0
                | exact hS1
                | exact hk1'.out _ hy1
                | exact hk2'.out _ _ hy1
                | exact hk3'.out _ _ _ hy1 hgrow))
              (first | (go_at_call 28; refine (hE'.out _ (by first | exact hS0.1 | exact hS1.1)).mono ?_; rintro e y1 ⟨rfl, hy1⟩) | (refine step_append_lies _ (by rfl) (.tmp 25) (.tmp 40) 52 (by rfl) w.heap.size 9 i0 (.string ⟨#[]⟩) 1 16 Tryd.underlying52 hi0'.out hz0'.out hz1'.out hz2'.out rfl (by decide) V k ((l.take k).map fun x => .string (partB x)) (by simp [Act.eval]) (hownA'.out _ _ hy1) ⟨y1.heap.size, 0, none⟩ 1 1 [.string (ka ++ nb ++ oa ++ (⟨#[34]⟩ : ByteArray) ++ ev ++ (⟨#[34]⟩ : ByteArray))] (by simp [Act.eval]) rfl (cell_one_new _ _ _) (by intro u hu; simp at hu; subst hu; rfl) (by decide) hm63 hmby (hbse'.out _ _ hy1) _ rfl ?_; intro gg cap2 w4 hown4 hgrow hat hlt1) | fail))) | fail)
            have hfin : Hid (w4.ownsRow w.heap.size 9 1 (.slice (some ⟨gg, 0, none⟩) (k + 1) cap2) (k + 1) ((l.take (k + 1)).map fun x => .string (partB x))) := by
              show w4.ownsRow _ _ _ _ _ _
              rw [hps.out, hpart.out]
              exact hown4
            have hBf := Lib.hid (hk3'.out _ _ _ hy1 hgrow).1
            clear hown4 hgrow hat hlt1 hy1 hS0 hS1 c0 c1 c2 c3 hps hpart
            go_wp2_with fail
            go_roundw
            case rel => exact ⟨k + 1, _, rfl, by go_num, by omega, hfin, hgd2, hBf⟩
            case measure => simp [intOf]; omega
      · obtain rfl : k = n := by omega
        have ht : l.take k = l := List.take_of_length_le (by have := hn'.out; omega)
        rw [ht] at hown hgd
        have hall : ((l.map TB.tok).all L.good = false) ↔ False := by
          have h1 := hgd.out
          refine ⟨fun e => ?_, fun h => h.elim⟩
          rw [List.all_eq_false] at e
          obtain ⟨y, hy, hb⟩ := e
          obtain ⟨x, hx, rfl⟩ := List.mem_map.1 hy
          rw [h1 x hx] at hb
          exact hb rfl
        have hsq : (l.map partB).map bs = l.map (L.one ∘ TB.tok) := by
          rw [List.map_map]
          exact List.map_congr_left fun x _ => bs_partB x
        have hJ : Calls Tryd.prog 29 #[V, .string ⟨#[44, 32]⟩] wr fun e w' => (∃ S : ByteArray, e = .returned (.string S) ∧ bs S = L.sepFirst (l.map (L.one ∘ TB.tok))) ∧ Below w.heap.size wr w' := by
          have hown2 := hown.out
          rcases hown.out.2 with ⟨rfl, h0⟩ | ⟨g', cap', cur, rfl, hg0, hg', hcp, _⟩
          · refine (hJ0'.out wr).mono ?_
            rintro e w' ⟨rfl, rfl⟩
            have : l = [] := List.eq_nil_of_length_eq_zero (by rw [hn'.out]; exact h0)
            subst this
            exact ⟨⟨⟨#[]⟩, rfl, rfl⟩, Below.refl _ _⟩
          · have hlen : (l.map partB).length = k := by rw [List.length_map]; exact hn'.out
            have hJ1 := Tryd.strings_Join g' 0 cap' (l.map partB) ⟨#[44, 32]⟩ wr (fun j x hx => by
              have hj : j < k := by rw [← hlen]; exact (List.getElem?_eq_some_iff.1 hx).1
              have h1 := World.ownsRow.cellAt hown2 j (by omega)
              rw [Nat.zero_add]
              rw [h1]
              rw [List.getElem?_map] at hx ⊢
              cases hq : l[j]? with
              | none => rw [hq] at hx; cases hx
              | some y => rw [hq] at hx; cases hx; rfl) (Array.getElem?_eq_some_iff.1 hg').1 (by rw [hlen]; omega) (by rw [hlen]; exact hcp) (by
              have := join_len (l.map partB) fun x hx => by
                obtain ⟨y, hy, rfl⟩ := List.mem_map.1 hx
                exact partB_size (hf'.out y hy)
              rw [hlen] at this
              show (Lib.join _ [44, 32]).length ≤ _
              omega)
            rw [hlen] at hJ1
            refine hJ1.mono ?_
            rintro e w' ⟨rfl, hbw⟩
            refine ⟨⟨_, rfl, ?_⟩, hbw.mono hb.out.size⟩
            rw [← hsq]
            exact join_bs _
        have hF2 := hF'.out
        rw [if_neg (fun e => hall.1 e)] at hF2
        generalize L.sepFirst (l.map (L.one ∘ TB.tok)) = X at *
        have hF3 := Lib.hid hF2; clear hF2 hall hgd hown hsq ht hF'
        have hJ' := Lib.hid hJ; clear hJ hJ0'
        go_wp2_with fail
        refine hJ'.out.mono ?_
        rintro e v1 ⟨⟨S, rfl, hS⟩, hb1⟩
        rw [← hS, length_bs] at hF3
        have hbb := Lib.hid (hb.out.trans hb1); clear hb1 hS
        by_cases h1k : 1024 < S.size
        · have hF4 := hF3.out
          rw [if_pos h1k] at hF4
          have hF5 := Lib.hid hF4; clear hF4 hF3
          have i1 : (1024 : Int) < (S.size : Int) := by omega
          go_wp2_with fail
          go_ret2
          rw [← hF5.out]
          exact ⟨⟨⟨#[]⟩, rfl, rfl⟩, hbb.out⟩
        · have hF4 := hF3.out
          rw [if_neg h1k] at hF4
          have hF5 := Lib.hid hF4; clear hF4 hF3
          have i1 : ¬ (1024 : Int) < (S.size : Int) := by omega
          go_wp2_with fail
          go_ret2
          rw [← hF5.out]
          exact ⟨⟨S, rfl, rfl⟩, hbb.out⟩

end Go.Proofs.YtofemhaepadggaaDoor
