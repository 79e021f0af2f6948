/-
  THE WALK of glob's (*search).least.
-/
import Derived.Test.YtfihccfjboopiaaComSpreadW
namespace Go.Proofs.Ytfihccfjboopiaa
open Go.RowKit Go.Maps

/-- x leads by a byte to a pair that needs just n bytes more. -/
def Cand (P Q : List (List G.El)) (n : Nat) (x : G.Pos) : Prop := G.okOf P Q x = true ∧ G.cOf P Q (G.nextOf P Q x) = some n
/-- What is known of the least byte b and of the pairs rs that are reached by it, as far as the pairs ys have been looked at. -/
structure LeastInv (P Q : List (List G.El)) (n : Nat) (ys : List G.Pos) (b : Nat) (rs : List G.Pos) : Prop where
  le : b ≤ 127
  some_ : (b = 127 ∧ ∀ x, x ∈ ys → ¬ Cand P Q n x) ∨ ∃ x, x ∈ ys ∧ Cand P Q n x ∧ G.bothOf P Q x b = true
  low : ∀ x c, x ∈ ys → Cand P Q n x → G.bothOf P Q x c = true → b ≤ c
  rs_ : ∀ z, z ∈ rs ↔ ∃ x, x ∈ ys ∧ Cand P Q n x ∧ G.bothOf P Q x b = true ∧ z = G.nextOf P Q x
  len : rs.length ≤ ys.length
theorem LeastInv.start (P Q : List (List G.El)) (n : Nat) : LeastInv P Q n [] 127 [] where
  le := Nat.le_refl _
  some_ := .inl ⟨rfl, fun x hx => by cases hx⟩
  low x c hx := by cases hx
  rs_ z := ⟨fun h => (by cases h), fun ⟨x, hx, _⟩ => (by cases hx)⟩
  len := Nat.le_refl _
theorem LeastInv.skip {P Q : List (List G.El)} {n : Nat} {ys : List G.Pos} {b : Nat} {rs : List G.Pos} (h : LeastInv P Q n ys b rs) {x : G.Pos} (hx : ¬ Cand P Q n x) : LeastInv P Q n (ys ++ [x]) b rs where
  le := h.le
  some_ := by
    rcases h.some_ with ⟨h1, h2⟩ | ⟨z, h1, h2⟩
    · refine .inl ⟨h1, fun z hz => ?_⟩
      rcases List.mem_append.1 hz with hz | hz
      · exact h2 z hz
      · simp only [List.mem_singleton] at hz
        subst hz
        exact hx
    · exact .inr ⟨z, List.mem_append_left _ h1, h2⟩
  low z c hz hc hb := by
    rcases List.mem_append.1 hz with hz | hz
    · exact h.low z c hz hc hb
    · simp only [List.mem_singleton] at hz
      subst hz
      exact absurd hc hx
  rs_ z := by
    rw [h.rs_ z]
    constructor
    · rintro ⟨y, h1, h2⟩; exact ⟨y, List.mem_append_left _ h1, h2⟩
    · rintro ⟨y, h1, h2, h3⟩
      rcases List.mem_append.1 h1 with h1 | h1
      · exact ⟨y, h1, h2, h3⟩
      · simp only [List.mem_singleton] at h1
        subst h1
        exact absurd h2 hx
  len := by have := h.len; simp; omega
/-- What becomes of the least byte at a pair that leads on: L1, r1 behind the inner loop. -/
structure Inner (bt : Nat → Bool) (L0 : Nat) (r0 : List G.Pos) (L1 : Nat) (r1 : List G.Pos) : Prop where
  or_ : (L1 = L0 ∧ r1 = r0 ∧ ∀ c, 32 ≤ c → c < L0 → bt c = false) ∨ (L1 < L0 ∧ 32 ≤ L1 ∧ r1 = [] ∧ bt L1 = true ∧ ∀ c, 32 ≤ c → c < L1 → bt c = false)
theorem LeastInv.more {P Q : List (List G.El)} {n : Nat} {ys : List G.Pos} {L0 L1 : Nat} {r0 r1 : List G.Pos} (h : LeastInv P Q n ys L0 r0) {x : G.Pos} (hx : Cand P Q n x) (hi : Inner (G.bothOf P Q x) L0 r0 L1 r1) :
    L1 ≤ 126 ∧ LeastInv P Q n (ys ++ [x]) L1 (if G.bothOf P Q x L1 then r1 ++ [G.nextOf P Q x] else r1) := by
  obtain ⟨c0, hc0⟩ := G.both_some hx.1
  have pr32 : ∀ c, G.bothOf P Q x c = true → 32 ≤ c ∧ c ≤ 126 := fun c hc => by
    unfold G.bothOf at hc
    simp only [Bool.and_eq_true, G.pr, decide_eq_true_eq] at hc
    exact hc.1
  have h126 : L1 ≤ 126 := by
    rcases hi.or_ with ⟨h1, h2, h3⟩ | ⟨h1, h2, h3, h4, h5⟩
    · rcases Nat.lt_or_ge c0 L0 with hlt | hge
      · rw [h3 c0 (pr32 c0 hc0).1 hlt] at hc0; cases hc0
      · have := (pr32 c0 hc0).2; omega
    · exact (pr32 L1 h4).2
  refine ⟨h126, ?_⟩
  have lowx : ∀ c, G.bothOf P Q x c = true → L1 ≤ c := fun c hc => by
    rcases Nat.lt_or_ge c L1 with hlt | hge
    · have h32 := (pr32 c hc).1
      rcases hi.or_ with ⟨h1, h2, h3⟩ | ⟨h1, h2, h3, h4, h5⟩
      · rw [h3 c h32 (by omega)] at hc; cases hc
      · rw [h5 c h32 hlt] at hc; cases hc
    · exact hge
  have hle : L1 ≤ L0 := by
    rcases hi.or_ with ⟨h1, _⟩ | ⟨h1, _⟩ <;> omega
  have hr1 : ∀ z, z ∈ r1 ↔ ∃ y, y ∈ ys ∧ Cand P Q n y ∧ G.bothOf P Q y L1 = true ∧ z = G.nextOf P Q y := fun z => by
    rcases hi.or_ with ⟨h1, h2, h3⟩ | ⟨h1, h2, h3, h4, h5⟩
    · rw [h2, h1]; exact h.rs_ z
    · rw [h3]
      constructor
      · intro e; cases e
      · rintro ⟨y, hy, hcy, hby, _⟩
        have := h.low y L1 hy hcy hby
        omega
  refine ⟨by omega, ?_, fun z c hz hcz hb => ?_, fun z => ?_, ?_⟩
  · right
    rcases hi.or_ with ⟨h1, h2, h3⟩ | ⟨h1, h2, h3, h4, h5⟩
    · rcases h.some_ with ⟨h6, _⟩ | ⟨y, h6, h7, h8⟩
      · omega
      · exact ⟨y, List.mem_append_left _ h6, h7, by rw [h1]; exact h8⟩
    · exact ⟨x, by simp, hx, h4⟩
  · rcases List.mem_append.1 hz with hz | hz
    · exact Nat.le_trans hle (h.low z c hz hcz hb)
    · simp only [List.mem_singleton] at hz
      subst hz
      exact lowx c hb
  · cases hbx : G.bothOf P Q x L1 with
    | true =>
      rw [if_pos rfl, List.mem_append, List.mem_singleton, hr1 z]
      constructor
      · rintro (⟨y, h1, h2⟩ | rfl)
        · exact ⟨y, List.mem_append_left _ h1, h2⟩
        · exact ⟨x, by simp, hx, hbx, rfl⟩
      · rintro ⟨y, h1, h2, h3, h4⟩
        rcases List.mem_append.1 h1 with h1 | h1
        · exact .inl ⟨y, h1, h2, h3, h4⟩
        · simp only [List.mem_singleton] at h1
          subst h1
          exact .inr h4
    | false =>
      rw [if_neg (by simp), hr1 z]
      constructor
      · rintro ⟨y, h1, h2⟩; exact ⟨y, List.mem_append_left _ h1, h2⟩
      · rintro ⟨y, h1, h2, h3, h4⟩
        rcases List.mem_append.1 h1 with h1 | h1
        · exact ⟨y, h1, h2, h3, h4⟩
        · simp only [List.mem_singleton] at h1
          subst h1
          rw [hbx] at h3
          cases h3
  · have hl : r1.length ≤ ys.length := by
      rcases hi.or_ with ⟨_, h2, _⟩ | ⟨_, _, h3, _⟩
      · rw [h2]; exact h.len
      · rw [h3]; simp
    split <;> simp <;> omega

/-- What holds at the head of the inner loop. -/
def InnerAt (bt : Nat → Bool) (L0 : Nat) (s0 : Value) (b2 L1 : Nat) (s : Value) : Prop :=
  32 ≤ b2 ∧ L1 ≤ L0 ∧ ((L1 = L0 ∧ s = s0 ∧ b2 ≤ L0 ∧ ∀ c, 32 ≤ c → c < b2 → bt c = false) ∨ (s = .slice none 0 0 ∧ b2 = L1 + 1 ∧ L1 < L0 ∧ 32 ≤ L1 ∧ bt L1 = true ∧ ∀ c, 32 ≤ c → c < L1 → bt c = false))
theorem InnerAt.found {bt : Nat → Bool} {L0 : Nat} {s0 : Value} {b2 L1 : Nat} {s : Value} (h : InnerAt bt L0 s0 b2 L1 s) (hlt : b2 < L1) (hb : bt b2 = true) : InnerAt bt L0 s0 (b2 + 1) b2 (.slice none 0 0) := by
  obtain ⟨h1, h0, ⟨h2, h3, h4, h5⟩ | ⟨h2, h3, _⟩⟩ := h
  · exact ⟨by omega, by omega, .inr ⟨rfl, rfl, by omega, h1, hb, h5⟩⟩
  · omega
theorem InnerAt.next {bt : Nat → Bool} {L0 : Nat} {s0 : Value} {b2 L1 : Nat} {s : Value} (h : InnerAt bt L0 s0 b2 L1 s) (hlt : b2 < L1) (hb : bt b2 = false) : InnerAt bt L0 s0 (b2 + 1) L1 s := by
  obtain ⟨h1, h0, ⟨h2, h3, h4, h5⟩ | ⟨h2, h3, _⟩⟩ := h
  · refine ⟨by omega, h0, .inl ⟨h2, h3, by omega, fun c hc1 hc2 => ?_⟩⟩
    rcases Nat.eq_or_lt_of_le (Nat.le_of_lt_succ hc2) with rfl | h6
    · exact hb
    · exact h5 c hc1 h6
  · omega
theorem InnerAt.end_ {bt : Nat → Bool} {L0 : Nat} {s0 : Value} {b2 L1 : Nat} {s : Value} (h : InnerAt bt L0 s0 b2 L1 s) (hge : ¬ b2 < L1) {W : World} {B : Nat} {rs : List G.Pos} (hp : Poss W B s0 rs) : ∃ r1, Inner bt L0 rs L1 r1 ∧ Poss W B s r1 := by
  obtain ⟨h1, h0, ⟨h2, h3, h4, h5⟩ | ⟨h2, h3, h4, h5, h6, h7⟩⟩ := h
  · refine ⟨rs, ⟨.inl ⟨h2, rfl, fun c hc1 hc2 => h5 c hc1 (by omega)⟩⟩, by rw [h3]; exact hp⟩
  · refine ⟨[], ⟨.inr ⟨h4, h5, rfl, h6, h7⟩⟩, by rw [h2]; exact World.ownsRow_nil _ _ _ _⟩

/-- What 'least' answers. -/
def LeastPost (P Q : List (List G.El)) (mb n : Nat) (xs : List G.Pos) (w : World) (e : Ending) (w' : World) : Prop :=
  ∃ (b : Nat) (v : Value) (rs : List G.Pos) (K' : G.Pos → Bool), e = .returned (.tuple #[.int .u8 b, v]) ∧ Poss w' w.heap.size v rs ∧ Only (fun k => k = mb) w w' ∧ Costs w' mb P Q K' ∧ LeastInv P Q n xs b rs

set_option maxRecDepth 100000 in
set_option maxHeartbeats 4000000 in
theorem least_any (P Q : List (List G.El)) (B sb mb B0 n : Nat) (vp vq lv : Value) (hf : Few P Q) (xs : List G.Pos) (K : G.Pos → Bool) (w : World) (hs : Sch w B sb mb vp vq P Q) (hk : Costs w mb P Q K) (hl : Poss w B0 lv xs)
    (hin : ∀ x, x ∈ xs → G.InP P Q x) (hlen : xs.length ≤ manyN) (hn : n ≤ 1000) :
    Calls Try.prog 47 #[.pointer (some ⟨sb, 0, none⟩), lv, .int .i64 ((n : Int) + 1)] w (LeastPost P Q mb n xs w) := by
  obtain ⟨i0, hi0, hz0, hz1, hz2⟩ := info_parts info_pair
  have hmb := hk.lt
  have hlen2 : xs.length ≤ 4362470401 := by rw [← manyN_eq]; exact hlen
  obtain ⟨p, cap, hlv, hpf⟩ := poss_form hl
  subst hlv
  have hs' := Lib.hid hs; clear hs
  have hk' := Lib.hid hk; clear hk
  have hl' := Lib.hid hl; clear hl
  have hin' := Lib.hid hin; clear hin hlen
  have hpf' := Lib.hid hpf; clear hpf
  go_enter Try.func47, Try.ntmps47
  go_wp2_with fail
  go_loopw [8, 9, 18] (fun t8 t9 t18 wr => ∃ (k b : Nat) (rs : List G.Pos) (K' : G.Pos → Bool), k ≤ xs.length ∧ t18 = .int .i64 k ∧ t8 = .int .u8 b ∧ Poss wr w.heap.size t9 rs ∧ Only (fun k => k = mb) w wr ∧ Costs wr mb P Q K' ∧ LeastInv P Q n (xs.take k) b rs) (fun _ _ t18 _ => xs.length - (intOf t18).toNat)
  case atStart => exact ⟨0, 127, [], K, by omega, rfl, rfl, World.ownsRow_nil _ _ _ _, Only.refl _ _, hk'.out, LeastInv.start P Q n⟩
  case round =>
    obtain ⟨k, b, rs, K', hkl, rfl, rfl, r1, r2, r3, r4⟩ := hrel
    by_cases hlt : k < xs.length
    · obtain ⟨x, hx⟩ : ∃ x, xs[k]? = some x := ⟨_, List.getElem?_eq_getElem hlt⟩
      obtain ⟨g, rfl⟩ := hpf'.out k x hx
      have hlr : Poss wr B0 (.slice (some ⟨g, 0, none⟩) xs.length cap) xs := own_map hl'.out hk'.out.isMap r2
      obtain ⟨y0, y1, y2, y3⟩ := poss_cell hlr hx
      have hix := hin'.out x (List.mem_of_getElem? hx)
      have htk : xs.take (k + 1) = xs.take k ++ [x] := by rw [List.take_add_one, hx]; rfl
      have kk0 : (0 : Int) ≤ (k : Int) := by omega
      have kk1 : (k : Int) < (xs.length : Int) := by omega
      have hb127 := r4.le
      have hrl : rs.length ≤ 4362470401 := by have := r4.len; simp at this; omega
      have hwr : w.heap.size ≤ wr.heap.size := r2.size
      have hSt := fun W (hW : Only (fun k => k = mb) w W) => step_any P Q B sb mb vp vq x W (hs'.out.only hk'.out.isMap hW) hix (hf.sm hix)
      unfold posV at hSt
      have hSt' := Lib.hid hSt; clear hSt hlr
      have r1' := Lib.hid r1; clear r1
      have r2' := Lib.hid r2; clear r2
      have r3' := Lib.hid r3; clear r3
      have r4' := Lib.hid r4; clear r4
      have hx' := Lib.hid hx; clear hx
      have hix' := Lib.hid hix; clear hix
      have htk' := Lib.hid htk; clear htk
      go_wp2_with fail
      refine (hSt'.out _ (r2'.out.alloc _)).mono ?_
      rintro e w2 ⟨yn, bs, rfl, hbl, himp⟩
      have hz2' := hbl.size
      simp only [World.size_alloc] at hz2'
      have g1 : Only (fun k => k = mb) w w2 := (r2'.out.alloc _).step (S' := fun _ => False) (Only.of_below hbl fun k h1 h2 => by omega) fun i hi => hi.elim
      have g3 : Costs w2 mb P Q K' := (r3'.out.heap (Below.heap_alloc wr (.cells #[.int .i64 x.a, .int .i64 x.i, .int .i64 x.b, .int .i64 x.j] 86) mb r3'.out.lt)).heap (hbl.block mb (by have := r3'.out.lt; simp; omega))
      have g4 := own_below (World.ownsRow.alloc r1'.out (.cells #[.int .i64 x.a, .int .i64 x.i, .int .i64 x.b, .int .i64 x.j] 86)) hbl
      obtain ⟨ok, hok⟩ : ∃ z, z = G.okOf P Q x := ⟨_, rfl⟩
      rw [← hok] at himp
      rw [← hok]
      have hok' := Lib.hid hok; clear hok
      have himp' := Lib.hid himp; clear himp hbl hSt'
      unfold posV
      have TB : Blk ((w2.alloc (.cells #[.int .i64 yn.a, .int .i64 yn.i, .int .i64 yn.b, .int .i64 yn.j] 86)).alloc (.cells Try.zeroCells116 116)) (w2.heap.size + 1) 116 (setArr G.none') := by rw [zero_set]; exact Blk.new_ _ _ _ (by simp)
      have h6 : Blk (((w2.alloc (.cells #[.int .i64 yn.a, .int .i64 yn.i, .int .i64 yn.b, .int .i64 yn.j] 86)).alloc (.cells Try.zeroCells116 116)).setRow (w2.heap.size + 1) (setArr bs)) w2.heap.size 86 #[.int .i64 yn.a, .int .i64 yn.i, .int .i64 yn.b, .int .i64 yn.j] := ((Blk.new w2 _ _).alloc _).rowOther (by omega) _
      have h7 : Blk (((w2.alloc (.cells #[.int .i64 yn.a, .int .i64 yn.i, .int .i64 yn.b, .int .i64 yn.j] 86)).alloc (.cells Try.zeroCells116 116)).setRow (w2.heap.size + 1) (setArr bs)) (w2.heap.size + 1) 116 (setArr bs) := TB.row _
      have TB' := Lib.hid TB; clear TB
      have oo : Only (fun _ => False) w2 (((w2.alloc (.cells #[.int .i64 yn.a, .int .i64 yn.i, .int .i64 yn.b, .int .i64 yn.j] 86)).alloc (.cells Try.zeroCells116 116)).setRow (w2.heap.size + 1) (setArr bs)) := (((Only.refl (fun _ => False) w2).alloc (.cells #[.int .i64 yn.a, .int .i64 yn.i, .int .i64 yn.b, .int .i64 yn.j] 86)).alloc (.cells Try.zeroCells116 116)).setRow (g := w2.heap.size + 1) (.inr (by omega)) (setArr bs)
      have h1 := g1.step oo fun i hi => hi.elim
      have h3 := g3.only oo fun h => h
      have h4 := own_only g4 oo fun _ _ h => h
      have hz4 : w2.heap.size + 1 + 1 ≤ (((w2.alloc (.cells #[.int .i64 yn.a, .int .i64 yn.i, .int .i64 yn.b, .int .i64 yn.j] 86)).alloc (.cells Try.zeroCells116 116)).setRow (w2.heap.size + 1) (setArr bs)).heap.size := by simp
      have h1' := Lib.hid h1; clear h1 g1
      have h3' := Lib.hid h3; clear h3 g3
      have h4' := Lib.hid h4; clear h4 g4 oo
      have h6' := Lib.hid h6; clear h6
      have h7' := Lib.hid h7; clear h7 r1' r2' r3'
      go_upto_region 7 with (refine wpList_store_row rfl 116 (.tmp 13) (.tmp 27) rfl (w2.heap.size + 1) (setArr bs) rfl rfl 116 (setArr G.none') TB'.out (sizeSet' _) (by rw [size_setArr, size_setArr]) (one_setArr _) ?_)
      generalize (((w2.alloc (.cells #[.int .i64 yn.a, .int .i64 yn.i, .int .i64 yn.b, .int .i64 yn.j] 86)).alloc (.cells Try.zeroCells116 116)).setRow (w2.heap.size + 1) (setArr bs)) = w4 at *
      clear TB'
      cases ok with
      | false =>
        go_wp2_with fail
        go_roundw
        case rel => exact ⟨k + 1, b, rs, K', by omega, by go_num, rfl, h4'.out, h1'.out, h3'.out, by rw [htk'.out]; exact r4'.out.skip (fun hc => by have h := hc.1; rw [← hok'.out] at h; cases h)⟩
        case measure => simp [intOf]; omega
      | true =>
        obtain ⟨hyn, hbs⟩ := himp'.out rfl
        have hnx := G.next_in hix'.out hok'.out.symm
        rw [← hyn] at hnx
        rw [hbs] at h7'
        have y0 : w4.cell? ⟨w2.heap.size, 0, none⟩ = some (.int .i64 yn.a) := (h6'.out.cell 0).trans rfl
        have y1 : w4.cell? ⟨w2.heap.size, 1, none⟩ = some (.int .i64 yn.i) := (h6'.out.cell 1).trans rfl
        have y2 : w4.cell? ⟨w2.heap.size, 2, none⟩ = some (.int .i64 yn.b) := (h6'.out.cell 2).trans rfl
        have y3 : w4.cell? ⟨w2.heap.size, 3, none⟩ = some (.int .i64 yn.j) := (h6'.out.cell 3).trans rfl
        have hcall := cost_any P Q B sb mb vp vq hf _ yn K' w4 (Nat.le_refl _) hnx.1 (hs'.out.only hk'.out.isMap h1'.out) h3'.out
        unfold posV at hcall
        have hcall' := Lib.hid hcall; clear hcall
        have hyn' := Lib.hid hyn; clear hyn
        have hbs' := Lib.hid hbs; clear hbs hnx himp'
        go_wp2_with fail
        refine hcall'.out.mono ?_
        rintro e w5 ⟨he, q1, K2, q3, _⟩
        obtain ⟨cv, hcv⟩ : ∃ z, z = G.toI (G.cOf P Q yn) := ⟨_, rfl⟩
        rw [← hcv] at he
        subst he
        have isM := h3'.out.isMap
        have v1 := h1'.out.trans q1
        have v4 := own_map h4'.out isM q1
        have v6 := h6'.out.only q1 (fun e => blk_map h6'.out isM e)
        have v7 := h7'.out.only q1 (fun e => blk_map h7'.out isM e)
        clear isM q1 h1' h3' h4' h6' h7' hcall' y0 y1 y2 y3
        have q3' := Lib.hid q3; clear q3
        have v1' := Lib.hid v1; clear v1
        have v4' := Lib.hid v4; clear v4
        have v6' := Lib.hid v6; clear v6
        have v7' := Lib.hid v7; clear v7
        by_cases hc : G.cOf P Q yn = some n
        · have hcn : (cv != (n : Int)) = false := by rw [hcv, hc]; simp [G.toI]
          have hcand : Cand P Q n x := ⟨hok'.out.symm, by rw [← hyn'.out]; exact hc⟩
          have hcv' := Lib.hid hcv; clear hcv hc
          have hcand' := Lib.hid hcand; clear hcand
          have hb32 : 32 ≤ b := by
            rcases r4'.out.some_ with ⟨h, _⟩ | ⟨z, _, _, h⟩
            · omega
            · unfold G.bothOf at h
              simp only [Bool.and_eq_true, G.pr, decide_eq_true_eq] at h
              exact h.1.1
          obtain ⟨s9, rfl⟩ : ∃ z : Value, z = u9 := ⟨_, rfl⟩
          go_wp2_with fail
          go_loop [8, 9, 15] (fun t8 t9 t15 => ∃ b2 L1 : Nat, t15 = .int .u8 b2 ∧ t8 = .int .u8 L1 ∧ InnerAt (G.bothOf P Q x) b s9 b2 L1 t9) (fun _ _ t15 => 128 - (intOf t15).toNat)
          case atStart => exact ⟨32, b, rfl, rfl, Nat.le_refl _, Nat.le_refl _, .inl ⟨rfl, rfl, hb32, fun c h1 h2 => by omega⟩⟩
          case round =>
            obtain ⟨b2, L1, rfl, rfl, hi⟩ := hrel
            have hL1 := hi.2.1
            by_cases hb2 : b2 < L1
            · have hb3 : (b2 : Int) < 127 := by omega
              have hb4 : (0 : Int) ≤ (b2 : Int) := by omega
              obtain ⟨bv, hbv⟩ : ∃ z, z = G.bothOf P Q x b2 := ⟨_, rfl⟩
              have c0 : w5.cell? ⟨w2.heap.size + 1, b2, none⟩ = some (.bool bv) := by rw [hbv]; exact (v7'.out.cell b2).trans (setArr_get _ _ (by omega))
              cases bv with
              | true =>
                have hnext := hi.found hb2 hbv.symm
                have hnext' := Lib.hid hnext; clear hnext hi hbv
                go_wp2_with fail
                go_round
                case rel => exact ⟨b2 + 1, b2, by go_num, rfl, hnext'.out⟩
                case measure => simp [intOf]; omega
              | false =>
                have hnext := hi.next hb2 hbv.symm
                have hnext' := Lib.hid hnext; clear hnext hi hbv
                go_wp2_with fail
                go_round
                case rel => exact ⟨b2 + 1, L1, by go_num, rfl, hnext'.out⟩
                case measure => simp [intOf]; omega
            · obtain ⟨r1, hin1, hpo1⟩ := hi.end_ hb2 v4'.out
              obtain ⟨hL126, hmore⟩ := r4'.out.more hcand'.out hin1
              have hb3 : (L1 : Int) < 127 := by omega
              have hb4 : (0 : Int) ≤ (L1 : Int) := by omega
              have hr1l : r1.length ≤ 4362470401 := by
                rcases hin1.or_ with ⟨_, h, _⟩ | ⟨_, _, h, _⟩
                · rw [h]; exact hrl
                · rw [h]; simp
              obtain ⟨bv, hbv⟩ : ∃ z, z = G.bothOf P Q x L1 := ⟨_, rfl⟩
              have c0 : w5.cell? ⟨w2.heap.size + 1, L1, none⟩ = some (.bool bv) := by rw [hbv]; exact (v7'.out.cell L1).trans (setArr_get _ _ (by omega))
              rw [← hbv] at hmore
              have hmore' := Lib.hid hmore; clear hmore hbv hin1 hi
              have hpo1' := Lib.hid hpo1; clear hpo1
              have hw5 := v1'.out.size
              have hw5b := v6'.out.lt
              cases bv with
              | false =>
                go_wp2_with fail
                go_roundw
                case rel => exact ⟨k + 1, L1, r1, K2, by omega, by go_num, rfl, hpo1'.out, v1'.out, q3'.out, by rw [htk'.out]; exact hmore'.out⟩
                case measure => simp [intOf]; omega
              | true =>
                have k0 := (v6'.out.cell 0).trans rfl
                have k1 := (v6'.out.cell 1).trans rfl
                have k2 := (v6'.out.cell 2).trans rfl
                have k3 := (v6'.out.cell 3).trans rfl
                go_wp2_with (first
                  | (at_builtin
                     refine wpList_append_lies _ rfl (.tmp 51) (.tmp 53) 82 rfl w.heap.size 86 i0 _ 4 32 Try.underlying82 hi0 hz0 hz1 hz2 rfl (by omega) _ r1.length (r1.flatMap posL) rfl (World.ownsRow.alloc hpo1'.out _) ⟨w5.heap.size, 0, none⟩ 1 1 (posL yn) rfl rfl (pos_new w5 yn) (posL_one yn) (by omega) (by unfold maxLen; omega) (by omega) (by simp; omega) (w5.heap.size + 1) (by simp) ?_
                     intro ga capa w6 own6 grow6 lies6 lt6
                     have own6' := Lib.hid own6; clear own6
                     have grow6' := Lib.hid grow6; clear grow6 lies6)
                  | fail)
                have hrow : ∀ i, Value.ownBlock _ = some i → w.heap.size ≤ i := fun i hi => (World.ownsRow.lt hpo1'.out i hi).1
                go_roundw
                case rel =>
                  refine ⟨k + 1, L1, r1 ++ [yn], K2, by omega, by go_num, rfl, ?_, ?_, ?_, ?_⟩
                  · unfold Poss
                    rw [List.length_append, List.length_singleton, ← flat_snoc]
                    exact own6'.out
                  · exact (v1'.out.alloc (.cells #[.int .i64 yn.a, .int .i64 yn.i, .int .i64 yn.b, .int .i64 yn.j] 86)).step (only_grown grow6'.out) fun i hi => .inr (hrow i hi)
                  · exact (q3'.out.heap (Below.heap_alloc w5 (.cells #[.int .i64 yn.a, .int .i64 yn.i, .int .i64 yn.b, .int .i64 yn.j] 86) mb q3'.out.lt)).only (only_grown grow6'.out) (fun e => own_ne_map hpo1'.out q3'.out.isMap e)
                  · rw [htk'.out, hyn'.out]
                    have h := hmore'.out
                    rw [if_pos rfl] at h
                    exact h
                case measure => simp [intOf]; omega
        · have hcn : (cv != (n : Int)) = true := by
            rw [hcv, bne_iff_ne]
            intro he
            apply hc
            cases h : G.cOf P Q yn with
            | none => rw [h] at he; simp only [G.toI] at he; omega
            | some k =>
              rw [h] at he
              simp only [G.toI] at he
              rw [show k = n from by omega]
          have hno : ¬ Cand P Q n x := fun h => hc (by rw [hyn'.out]; exact h.2)
          have hcv' := Lib.hid hcv; clear hcv hc
          have hno' := Lib.hid hno; clear hno
          go_wp2_with fail
          go_roundw
          case rel => exact ⟨k + 1, b, rs, K2, by omega, by go_num, rfl, v4'.out, v1'.out, q3'.out, by rw [htk'.out]; exact r4'.out.skip hno'.out⟩
          case measure => simp [intOf]; omega
    · obtain rfl : k = xs.length := by omega
      rw [List.take_length] at r4
      have kkk : ¬ ((xs.length : Int) < (xs.length : Int)) := by omega
      have r1' := Lib.hid r1; clear r1
      have r2' := Lib.hid r2; clear r2
      have r3' := Lib.hid r3; clear r3
      have r4' := Lib.hid r4; clear r4
      go_wp2_with fail
      go_ret2
      exact ⟨b, _, rs, K', rfl, r1'.out, r2'.out, r3'.out, r4'.out⟩

end Go.Proofs.Ytfihccfjboopiaa
