/-
  THE WALK of coldplugref08.Format: the line of tokens.
-/
import Derived.Test.YtofemhaepadggaaDoorLexGood
import Derived.Test.YtofemhaepadggaaDoorLexGen
namespace Go.Proofs.YtofemhaepadggaaDoor
open Go.RowKit

/-- Tokens somewhere in memory. -/
def TokAt (w : World) (v : Value) (l : List TB) : Prop :=
  l.length ≤ 100 ∧ ((v = .slice none 0 0 ∧ l = []) ∨ ∃ g o cap, v = .slice (some ⟨g, o, none⟩) l.length cap ∧ g < w.heap.size ∧
    ∀ (k : Nat) (x : TB), l[k]? = some x → w.cell? ⟨g, o + k * 4, none⟩ = some (.string x.k) ∧ w.cell? ⟨g, o + k * 4 + 1, none⟩ = some (.string x.n) ∧ w.cell? ⟨g, o + k * 4 + 2, none⟩ = some (.string x.o) ∧ w.cell? ⟨g, o + k * 4 + 3, none⟩ = some (.string x.v))
theorem TokAt.below {w w' : World} {v : Value} {l : List TB} (h : TokAt w v l) (hb : Below w.heap.size w w') : TokAt w' v l := by
  refine ⟨h.1, ?_⟩
  rcases h.2 with h | ⟨g, o, cap, rfl, hg, hc⟩
  · exact .inl h
  · refine .inr ⟨g, o, cap, rfl, by have := hb.size; omega, fun k x hx => ?_⟩
    have e : ∀ i, w'.cell? ⟨g, i, none⟩ = w.cell? ⟨g, i, none⟩ := fun i => World.cell?_of_block (hb.block g hg)
    obtain ⟨h0, h1, h2, h3⟩ := hc k x hx
    exact ⟨(e _).trans h0, (e _).trans h1, (e _).trans h2, (e _).trans h3⟩
theorem Toks.at {w : World} {B : Nat} {v : Value} {l : List TB} (h : Toks w B v l) (hl : l.length ≤ 100) : TokAt w v l := by
  refine ⟨hl, ?_⟩
  have h' : w.ownsRow B 40 4 v l.length (flatT l) := h
  rcases h'.2 with ⟨rfl, h0⟩ | ⟨g, cap, cur, rfl, _, hg, _⟩
  · exact .inl ⟨rfl, List.eq_nil_of_length_eq_zero h0⟩
  · refine .inr ⟨g, 0, cap, rfl, (Array.getElem?_eq_some_iff.1 hg).1, fun k x hx => ?_⟩
    have hk : k < l.length := (List.getElem?_eq_some_iff.1 hx).1
    obtain ⟨h0, h1, h2, h3⟩ := flatT_get l k x hx
    simp only [Nat.zero_add]
    exact ⟨(World.ownsRow.cellAt h' _ (by omega)).trans h0, (World.ownsRow.cellAt h' _ (by omega)).trans h1, (World.ownsRow.cellAt h' _ (by omega)).trans h2, (World.ownsRow.cellAt h' _ (by omega)).trans h3⟩
/-- Tokens none of whose texts is longer than a million bytes. -/
def Fit (x : TB) : Prop := x.k.size ≤ 1048576 ∧ x.n.size ≤ 1048576 ∧ x.o.size ≤ 1048576 ∧ x.v.size ≤ 1048576
theorem Small.fit {x : TB} (h : Small x) : Fit x := ⟨Nat.le_trans h.1 (by decide), Nat.le_trans h.2.1 (by decide), Nat.le_trans h.2.2.1 (by decide), Nat.le_trans h.2.2.2 (by decide)⟩

theorem sepFirst_snoc : ∀ (l : List (List Nat)) (x : List Nat), L.sepFirst (l ++ [x]) = if l = [] then x else L.sepFirst l ++ [44, 32] ++ x
  | [], x => by simp [L.sepFirst]
  | a :: l, x => by
    simp only [List.cons_append, L.sepFirst, List.map_append, List.flatten_append, List.map_cons, List.map_nil, List.flatten_cons, List.flatten_nil, List.append_nil]
    rw [if_neg (by simp)]
    simp
/-- The line of the first k tokens. -/
def preL (l : List TB) (k : Nat) : List Nat := L.sepFirst ((l.take k).map fun x => L.one x.tok)
theorem preL_succ {l : List TB} {k : Nat} {x : TB} (h : l[k]? = some x) : preL l (k + 1) = (if k = 0 then [] else preL l k ++ [44, 32]) ++ L.one x.tok := by
  unfold preL
  have hk := (List.getElem?_eq_some_iff.1 h).1
  rw [List.take_add_one, h, List.map_append, Option.toList_some, List.map_cons, List.map_nil, sepFirst_snoc]
  by_cases h0 : k = 0
  · subst h0; simp
  · rw [if_neg h0, if_neg]
    simp
    exact ⟨h0, fun e => by subst e; simp at hk⟩

set_option maxRecDepth 100000 in
set_option maxHeartbeats 4000000 in
theorem rformat_any (l : List TB) (v : Value) (m : Int) (w : World) (hl : TokAt w v l) (hf : ∀ x ∈ l, Fit x) (hm : w.cell? ⟨0, 0, none⟩ = some (.int .i64 m)) :
    Calls Tryd.prog 18 #[v] w fun e w' => (∃ S : ByteArray, e = .returned (.tuple #[.string S, .int .i64 (L.fmt (l.map TB.tok)).2]) ∧ bs S = (L.fmt (l.map TB.tok)).1) ∧ Below w.heap.size w w' := by
  have h0lt : 0 < w.heap.size := World.block_lt_of_cell? w _ hm
  obtain ⟨F, hF⟩ : ∃ F, L.fmt (l.map TB.tok) = F := ⟨_, rfl⟩
  rw [hF]
  unfold L.fmt at hF
  rw [List.map_map] at hF
  have hF' := Lib.hid hF; clear hF
  have hl100 := hl.1
  rcases hl.2 with ⟨rfl, rfl⟩ | ⟨g, o, cap, rfl, hg, hc⟩
  · have hF2 : F = ([], 0) := by rw [← hF'.out]; rfl
    subst hF2
    clear hl hF' hm
    go_enter Tryd.func18, Tryd.ntmps18
    go_wp2_with fail
    go_loopw [4, 5] (fun s4 s5 wr => s4 = .string ⟨#[]⟩ ∧ s5 = .int .i64 0 ∧ wr = w) (fun _ _ _ => 0)
    case atStart => exact ⟨rfl, rfl, rfl⟩
    case round =>
      obtain ⟨rfl, rfl, rfl⟩ := hrel
      go_wp2_with fail
      go_ret2
      exact ⟨⟨⟨#[]⟩, rfl, rfl⟩, Below.refl _ _⟩
  · clear hl
    obtain ⟨n, hn⟩ : ∃ n, l.length = n := ⟨_, rfl⟩
    rw [hn] at hl100 ⊢
    have hn' := Lib.hid hn; clear hn
    have hc' := Lib.hid hc; clear hc
    have hf' := Lib.hid hf; clear hf
    have hm' := Lib.hid hm; clear hm
    have keep : Hid (∀ W, Below w.heap.size w W → ∀ (k : Nat) (x : TB), l[k]? = some x → W.cell? ⟨g, o + k * 4, none⟩ = some (.string x.k) ∧ W.cell? ⟨g, o + k * 4 + 1, none⟩ = some (.string x.n) ∧ W.cell? ⟨g, o + k * 4 + 2, none⟩ = some (.string x.o) ∧ W.cell? ⟨g, o + k * 4 + 3, none⟩ = some (.string x.v)) := fun W hb k x hx => by
      have e : ∀ i, W.cell? ⟨g, i, none⟩ = w.cell? ⟨g, i, none⟩ := fun i => World.cell?_of_block (hb.block g hg)
      obtain ⟨h0, h1, h2, h3⟩ := hc'.out k x hx
      exact ⟨(e _).trans h0, (e _).trans h1, (e _).trans h2, (e _).trans h3⟩
    have keepm : Hid (∀ W, Below w.heap.size w W → W.cell? ⟨0, 0, none⟩ = some (.int .i64 m)) := fun W hb => (World.cell?_of_block (hb.block 0 h0lt)).trans hm'.out
    clear hc' hm'
    go_enter Tryd.func18, Tryd.ntmps18
    go_wp2_with fail
    go_loopw [4, 5] (fun s4 s5 wr => ∃ (k : Nat) (S : ByteArray), s4 = .string S ∧ s5 = .int .i64 k ∧ k ≤ n ∧ S.size ≤ k * 6000000 ∧ Hid (bs S = preL l k) ∧ Hid (∀ x ∈ l.take k, L.good x.tok = true) ∧ Hid (Below w.heap.size w wr)) (fun _ s5 _ => n - (intOf s5).toNat)
    case atStart => exact ⟨0, ⟨#[]⟩, rfl, rfl, by omega, (by show 0 ≤ _; omega), rfl, (show ∀ x ∈ l.take 0, L.good x.tok = true from fun x hx => by simp at hx), Below.refl _ _⟩
    case round =>
      obtain ⟨k, S, rfl, rfl, hk, hS, hSb, hgd, hb⟩ := hrel
      by_cases hkn : k < n
      · obtain ⟨x, hx⟩ : ∃ x, l[k]? = some x := ⟨_, List.getElem?_eq_getElem (by have := hn'.out; omega)⟩
        obtain ⟨f1, f2, f3, f4⟩ := hf'.out x (List.mem_of_getElem? hx)
        obtain ⟨c0, c1, c2, c3⟩ := keep.out wr hb.out k x hx
        have hG := rgood_any x wr (by omega) (by omega) (by omega)
        have ik : (k : Int) < (n : Int) := by omega
        have ik0 : (0 : Int) ≤ (k : Int) := by omega
        have hpre := preL_succ hx
        have hx' := Lib.hid hx; clear hx
        have hpre' := Lib.hid hpre; clear hpre
        obtain ⟨ka, na, oa, va⟩ := x
        simp only at f1 f2 f3 f4 c0 c1 c2 c3
        cases hgx : L.good (⟨ka, na, oa, va⟩ : TB).tok with
        | false =>
          have hF2 : F = ([], 82) := by
            rw [← hF'.out, if_pos]
            rw [List.all_eq_false]
            exact ⟨_, List.mem_map.2 ⟨_, List.mem_of_getElem? hx'.out, rfl⟩, by rw [hgx]; simp⟩
          rw [hgx] at hG
          have hG' := Lib.hid hG; clear hG
          have hF3 := Lib.hid hF2; clear hF2 hgx
          go_wp2_with fail
          refine hG'.out.mono ?_
          rintro e v1 ⟨rfl, hb1⟩
          have hbb := Lib.hid (hb.out.trans (hb1.mono hb.out.size)); clear hb1
          go_wp2_with fail
          go_ret2
          rw [hF3.out]
          exact ⟨⟨⟨#[]⟩, rfl, rfl⟩, hbb.out⟩
        | true =>
          have hgd2 : Hid (∀ x ∈ l.take (k + 1), L.good x.tok = true) := fun y hy => by
            rw [List.take_add_one, hx'.out] at hy
            rcases List.mem_append.1 hy with hy | hy
            · exact hgd.out y hy
            · simp at hy; subst hy; exact hgx
          rw [hgx] at hG
          have hG' := Lib.hid hG; clear hG hgx hgd
          go_wp2_with fail
          refine hG'.out.mono ?_
          rintro e v1 ⟨rfl, hb1⟩
          have hbb := Lib.hid (hb.out.trans (hb1.mono hb.out.size)); clear hb1 hb hG' c0 c1 c2 c3
          obtain ⟨c0, c1, c2, c3⟩ := keep.out v1 hbb.out k _ hx'.out
          simp only at c0 c1 c2 c3
          obtain ⟨b, hb0, hbk⟩ : ∃ b : Bool, decide (0 < k) = b ∧ ((b = true ∧ 0 < k) ∨ (b = false ∧ k = 0)) := by
            by_cases h : 0 < k
            · exact ⟨true, decide_eq_true h, .inl ⟨rfl, h⟩⟩
            · exact ⟨false, decide_eq_false h, .inr ⟨rfl, by omega⟩⟩
          have hb1 : decide ((0 : Int) < (k : Int)) = b := by rw [← hb0]; simp
          have hbk' := Lib.hid hbk; clear hbk
          go_upto_if 19 with fail
          clear hb0 hb1
          go_cut [4] (fun s4 wc => ∃ S2 : ByteArray, s4 = .string S2 ∧ S2.size ≤ k * 6000000 + 2 ∧ Hid (bs S2 = if k = 0 then [] else preL l k ++ [44, 32]) ∧ wc = v1)
          case first =>
            cases b with
            | false =>
              have h0' : Hid (k = 0) := Lib.hid (by simpa using hbk'.out)
              go_wp2_with fail
              go_meet
              case rel => exact ⟨S, rfl, Nat.le_trans hS (Nat.le_add_right _ _), Lib.hid (by rw [if_pos h0'.out, hSb.out, h0'.out]; simp [preL, L.sepFirst]), rfl⟩
            | true =>
              have h0' : Hid (¬ k = 0) := by
                have : 0 < k := by simpa using hbk'.out
                show ¬ k = 0
                omega
              have hz : (⟨#[44, 32]⟩ : ByteArray).size = 2 := rfl
              go_wp2_with fail
              go_meet
              case rel => exact ⟨S ++ (⟨#[44, 32]⟩ : ByteArray), rfl, by rw [ByteArray.size_append]; omega, Lib.hid (by rw [if_neg h0'.out, bs_app, hSb.out]; rfl), rfl⟩
          case rest =>
            obtain ⟨S2, rfl, hS2, hSb2, rfl⟩ := hcut
            clear hS hSb hbk'
            obtain ⟨b2, he1, hbk2⟩ : ∃ b2 : Bool, (na.toList == []) = b2 ∧ ((b2 = true ∧ bs na = []) ∨ (b2 = false ∧ bs na ≠ [])) := by
              by_cases hn0 : na.size = 0
              · exact ⟨true, list_emp hn0, .inl ⟨rfl, List.eq_nil_of_length_eq_zero (by rw [length_bs]; exact hn0)⟩⟩
              · exact ⟨false, list_ne na (by omega), .inr ⟨rfl, fun h => hn0 (by rw [← length_bs, h]; rfl)⟩⟩
            have he2 : na.toList.isEmpty = b2 := by rw [← he1]; cases na.toList <;> rfl
            have hbk2' := Lib.hid hbk2; clear hbk2
            go_upto_if 34 with fail
            clear he1 he2
            have hS3s : (S2 ++ ka).size ≤ k * 6000000 + 1048578 := by rw [ByteArray.size_append]; omega
            have hS3b : Hid (bs (S2 ++ ka) = bs S2 ++ bs ka) := bs_app _ _
            generalize hS3 : S2 ++ ka = S3 at *
            clear hS3 hS2
            go_cut [4] (fun s4 wc2 => ∃ S4 : ByteArray, s4 = .string S4 ∧ S4.size ≤ k * 6000000 + 2097156 ∧ Hid (bs S4 = bs S3 ++ (if bs na = [] then [] else 123 :: bs na ++ [125])) ∧ wc2 = wc)
            case first =>
              cases b2 with
              | true =>
                have hbn' : Hid (bs na = []) := Lib.hid (by simpa using hbk2'.out)
                go_wp2_with fail
                go_meet
                case rel => exact ⟨S3, rfl, Nat.le_trans hS3s (Nat.add_le_add_left (by decide) _), Lib.hid (by rw [if_pos hbn'.out, List.append_nil]), rfl⟩
              | false =>
                have hbn' : Hid (bs na ≠ []) := Lib.hid (by simpa using hbk2'.out)
                have hz1 : (⟨#[123]⟩ : ByteArray).size = 1 := rfl
                have hz2 : (⟨#[125]⟩ : ByteArray).size = 1 := rfl
                go_wp2_with fail
                go_meet
                case rel => exact ⟨S3 ++ ((⟨#[123]⟩ : ByteArray) ++ na ++ (⟨#[125]⟩ : ByteArray)), rfl, by rw [ByteArray.size_append, ByteArray.size_append, ByteArray.size_append]; omega, Lib.hid (by rw [if_neg hbn'.out, bs_app, bs_app, bs_app]; rfl), rfl⟩
            case rest =>
              obtain ⟨S4, rfl, hS4, hSb4, rfl⟩ := hcut
              clear c0 c1
              have hE : ∀ W, Below w.heap.size w W → Calls Tryd.prog 28 #[.string va, .string ⟨#[34]⟩, .string ⟨#[92, 34]⟩] W fun e w' => e = .returned (.string (escB va)) ∧ Below W.heap.size W w' := fun W h => esc_any va m W (by omega) (keepm.out W h)
              have hes := escB_size va
              have hEb := bs_esc va
              generalize escB va = ev at *
              have hE' := Lib.hid hE; clear hE
              have hEb' := Lib.hid hEb; clear hEb
              have hkeep : ∀ W y : World, Below w.heap.size w W → Below W.heap.size W y → Below w.heap.size w y ∧ y.cell? ⟨g, o + k * 4 + 2, none⟩ = some (.string oa) ∧ y.cell? ⟨g, o + k * 4 + 3, none⟩ = some (.string va) := fun W y h1 h2 => by
                have h3 := h1.trans (h2.mono h1.size)
                obtain ⟨_, _, d2, d3⟩ := keep.out y h3 k _ hx'.out
                exact ⟨h3, d2, d3⟩
              have hkeep' := Lib.hid hkeep; clear hkeep
              have hz1 : (⟨#[34]⟩ : ByteArray).size = 1 := rfl
              have n1 : ¬ (9223372036854775807 < oa.size + 1) := by omega
              have n2 : ¬ (9223372036854775807 < oa.size + 1 + ev.size) := by omega
              have n3 : ¬ (9223372036854775807 < oa.size + 1 + ev.size + 1) := by omega
              have n4 : ¬ (9223372036854775807 < S4.size + (oa.size + 1 + ev.size + 1)) := by omega
              go_upto_region 12 with fail
              ((go_region_held3 (fun w' => Below w.heap.size w w' ∧ w'.cell? ⟨g, o + k * 4 + 2, none⟩ = some (.string oa) ∧ w'.cell? ⟨g, o + k * 4 + 3, none⟩ = some (.string va))
                ((first
                  | exact ⟨hbb.out, c2, c3⟩
                  | exact ⟨Below.drew hbb.out, c2, c3⟩
                  | exact hkeep'.out _ _ (Below.drew hbb.out) hy1))
                (first | (go_at_call 28; refine (hE'.out _ (by first | exact hbb.out | exact Below.drew hbb.out)).mono ?_; rintro e y1 ⟨rfl, hy1⟩) | fail)))
              have hy := Lib.hid (hkeep'.out _ _ (Below.drew hbb.out) hy1).1
              have hfin : Hid (bs (S4 ++ (oa ++ (⟨#[34]⟩ : ByteArray) ++ ev ++ (⟨#[34]⟩ : ByteArray))) = preL l (k + 1)) := Lib.hid (by
                rw [hpre'.out, bs_app, bs_app, bs_app, bs_app, hSb4.out, hS3b.out, hSb2.out, hEb'.out]
                show _ = _ ++ L.one ⟨bs ka, bs na, bs oa, bs va⟩
                unfold L.one
                simp only [List.append_assoc]
                rfl)
              have hsz : (S4 ++ (oa ++ (⟨#[34]⟩ : ByteArray) ++ ev ++ (⟨#[34]⟩ : ByteArray))).size ≤ (k + 1) * 6000000 := by
                rw [ByteArray.size_append, ByteArray.size_append, ByteArray.size_append, ByteArray.size_append]; omega
              clear hy1
              go_wp2_with fail
              go_roundw
              case rel => exact ⟨k + 1, _, rfl, by go_num, by omega, hsz, hfin, hgd2, hy⟩
              case measure => simp [intOf]; omega
      · obtain rfl : k = n := by omega
        have hall : ((l.map TB.tok).all L.good = false) ↔ False := by
          have ht : l.take k = l := List.take_of_length_le (by have := hn'.out; omega)
          have h1 := hgd.out
          rw [ht] at h1
          refine ⟨fun e => ?_, fun h => h.elim⟩
          rw [List.all_eq_false] at e
          obtain ⟨y, hy, hb⟩ := e
          obtain ⟨x, hx, rfl⟩ := List.mem_map.1 hy
          rw [h1 x hx] at hb
          exact hb rfl
        have hpl : preL l k = L.sepFirst (l.map (L.one ∘ TB.tok)) := by
          unfold preL
          rw [List.take_of_length_le (by have := hn'.out; omega)]
          rfl
        have hF2 := hF'.out
        rw [if_neg (fun e => hall.1 e), ← hpl, ← hSb.out, length_bs] at hF2
        have hF3 := Lib.hid hF2; clear hF2 hall hpl hgd hSb
        by_cases h1k : 1024 < S.size
        · have hF4 := hF3.out
          rw [if_pos h1k] at hF4
          have hF5 := Lib.hid hF4; clear hF4 hF3
          have i1 : (1024 : Int) < (S.size : Int) := by omega
          go_wp2_with fail
          go_ret2
          rw [← hF5.out]
          exact ⟨⟨⟨#[]⟩, rfl, rfl⟩, hb.out⟩
        · have hF4 := hF3.out
          rw [if_neg h1k] at hF4
          have hF5 := Lib.hid hF4; clear hF4 hF3
          have i1 : ¬ (1024 : Int) < (S.size : Int) := by omega
          go_wp2_with fail
          go_ret2
          rw [← hF5.out]
          exact ⟨⟨S, rfl, rfl⟩, hb.out⟩

end Go.Proofs.YtofemhaepadggaaDoor
