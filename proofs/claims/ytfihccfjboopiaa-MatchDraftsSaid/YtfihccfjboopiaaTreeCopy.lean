/-
  THE WALKS of slices.Clone over attributes, tree.copied, tree.first, tree.Find.
-/
import Derived.Test.YtfihccfjboopiaaTreeFind
import Derived.Laws.OwnMore
namespace Go.Proofs.Ytfihccfjboopiaa
open Go.RowKit

theorem rows_get {sz : Nat} : ∀ (l : List (List Value)), (∀ x ∈ l, x.length = sz) → ∀ (j : Nat) (u : Value), l.flatten[j]? = some u → ∃ k i xs, l[k]? = some xs ∧ xs[i]? = some u ∧ j = k * sz + i
  | [], _, j, u, h => by simp at h
  | x :: l, hl, j, u, h => by
    rw [List.flatten_cons] at h
    have hx := hl x (by simp)
    by_cases hj : j < x.length
    · rw [List.getElem?_append_left hj] at h
      exact ⟨0, j, x, rfl, h, by omega⟩
    · rw [List.getElem?_append_right (by omega)] at h
      obtain ⟨k, i, xs, h1, h2, h3⟩ := rows_get l (fun y hy => hl y (by simp [hy])) _ u h
      refine ⟨k + 1, i, xs, by simpa using h1, h2, ?_⟩
      rw [Nat.succ_mul]
      omega
theorem rows_at {sz : Nat} : ∀ (l : List (List Value)), (∀ x ∈ l, x.length = sz) → ∀ (k : Nat) (xs : List Value), l[k]? = some xs → ∀ (i : Nat) (u : Value), xs[i]? = some u → l.flatten[k * sz + i]? = some u
  | [], _, k, xs, h, _, _, _ => by cases h
  | x :: l, hl, 0, xs, h, i, u, hu => by
    simp at h
    subst h
    rw [List.flatten_cons, Nat.zero_mul, Nat.zero_add, List.getElem?_append_left (List.getElem?_eq_some_iff.1 hu).1]
    exact hu
  | x :: l, hl, k + 1, xs, h, i, u, hu => by
    have hx := hl x (by simp)
    have := rows_at l (fun y hy => hl y (by simp [hy])) k xs (by simpa using h) i u hu
    rw [List.flatten_cons, List.getElem?_append_right (by rw [Nat.succ_mul]; omega)]
    rw [← this]
    congr 1
    rw [Nat.succ_mul]
    omega
theorem rows_length {sz : Nat} : ∀ (l : List (List Value)), (∀ x ∈ l, x.length = sz) → l.flatten.length = l.length * sz
  | [], _ => by simp
  | x :: l, hl => by
    rw [List.flatten_cons, List.length_append, rows_length l (fun y hy => hl y (by simp [hy])), hl x (by simp), List.length_cons, Nat.succ_mul]
    omega
theorem addr_add (g o n : Nat) : (⟨g, o, none⟩ : Addr).add n = ⟨g, o + n, none⟩ := by
  unfold Addr.add
  split
  · rename_i h; rw [h]; rfl
  · rfl
theorem RowAt.news {w : World} {g o n cap sz : Nat} {l : List (List Value)} (h : RowAt w (.slice (some ⟨g, o, none⟩) n cap) sz l) (hl : ∀ x ∈ l, x.length = sz) : ∀ j u, l.flatten[j]? = some u → w.cell? ((⟨g, o, none⟩ : Addr).add j) = some u := fun j u hu => by
  obtain ⟨k, i, xs, h1, h2, rfl⟩ := rows_get l hl j u hu
  rcases h.2 with ⟨h0, _⟩ | ⟨g', o', cap', h0, _, hc⟩
  · cases h0
  · cases h0
    have := hc k xs h1 i u h2
    rw [addr_add, ← Nat.add_assoc]
    exact this
/-- A row of the call's own, to be read. -/
theorem RowAt.own {w : World} {B sz n : Nat} {e : TypeId} {v : Value} {l : List (List Value)} (h : w.ownsRow B e sz v n l.flatten) (hn : l.length = n) (hl : ∀ x ∈ l, x.length = sz) (h9 : l.length ≤ 9223372036854775807) : RowAt w v sz l := by
  refine ⟨h9, ?_⟩
  rcases h.2 with ⟨rfl, h0⟩ | ⟨g, cap, cur, rfl, _, hg, _⟩
  · exact .inl ⟨rfl, List.eq_nil_of_length_eq_zero (by omega)⟩
  · refine .inr ⟨g, 0, cap, by rw [hn], (Array.getElem?_eq_some_iff.1 hg).1, fun k xs hx j u hu => ?_⟩
    have hk : k < l.length := (List.getElem?_eq_some_iff.1 hx).1
    have hj : j < sz := by rw [← hl xs (List.mem_of_getElem? hx)]; exact (List.getElem?_eq_some_iff.1 hu).1
    have hfl := rows_at l hl k xs hx j u hu
    have hlt : k * sz + j < n * sz := by
      have : (k + 1) * sz ≤ n * sz := Nat.mul_le_mul_right _ (by omega)
      rw [Nat.succ_mul] at this
      omega
    rw [Nat.zero_add]
    exact (World.ownsRow.cellAt h (k * sz + j) hlt).trans hfl

theorem att_two (l : List Att) : ∀ x ∈ l.map attC, x.length = 2 := fun x hx => by
  obtain ⟨y, _, rfl⟩ := List.mem_map.1 hx
  rfl
theorem att_one (l : List Att) : ∀ u ∈ (l.map attC).flatten, u.oneCell' = true := fun u hu => by
  obtain ⟨x, hx, hu⟩ := List.mem_flatten.1 hu
  obtain ⟨y, _, rfl⟩ := List.mem_map.1 hx
  simp [attC] at hu
  rcases hu with rfl | rfl <;> rfl
theorem info_att : (Try.prog.info? 40).map (fun i => (i.zero, i.size, i.bytes)) = some (some (.agg #[.string ⟨#[]⟩, .string ⟨#[]⟩]), 2, 32) := by kernel_rfl

theorem eql_nil (W : World) : (binOp .eql 24 (.slice none 0 0) (.slice none 0 0)).run Try.prog W = .ok (.bool true) W := by kernel_rfl
theorem eql_some (a : Addr) (n c : Nat) (W : World) : (binOp .eql 24 (.slice (some a) n c) (.slice none 0 0)).run Try.prog W = .ok (.bool false) W := by kernel_rfl
attribute [local go_sem] eql_nil eql_some

/-- What a list of attributes is kept by: nil where there is none. -/
def Neat (l : List Att) (a : Option Addr) (n c : Nat) : Prop := l.length = n ∧ (l = [] → a = none ∧ c = 0) ∧ n ≤ 1000000000

set_option maxRecDepth 100000 in
set_option maxHeartbeats 1000000 in
theorem clone_any (l : List Att) (a : Option Addr) (n c : Nat) (w : World) (hl : RowAt w (.slice a n c) 2 (l.map attC)) (h0 : Neat l a n c) :
    Calls Try.prog 91 #[.slice a n c] w fun e w' => (∃ a' n' c', e = .returned (.slice a' n' c') ∧ RowAt w' (.slice a' n' c') 2 (l.map attC) ∧ Neat l a' n' c' ∧ ∀ x, a' = some x → w.heap.size ≤ x.block) ∧ Below w.heap.size w w' := by
  obtain ⟨hn, hz, h9⟩ := h0
  by_cases hl0 : l = []
  · obtain ⟨rfl, rfl⟩ := hz hl0
    subst hl0
    obtain rfl : n = 0 := hn.symm
    go_enter Try.func91, Try.ntmps91
    go_wp2_with fail
    go_ret
    exact ⟨⟨none, 0, 0, rfl, ⟨Nat.zero_le _, .inl ⟨rfl, rfl⟩⟩, ⟨rfl, fun _ => ⟨rfl, rfl⟩, Nat.zero_le _⟩, fun x h => by cases h⟩, Below.refl _ _⟩
  · have hlen := h9
    obtain ⟨g, o, rfl⟩ : ∃ g o, a = some ⟨g, o, none⟩ := by
      rcases hl.2 with ⟨_, h⟩ | ⟨g, o, cap, h, _⟩
      · exact absurd (List.map_eq_nil_iff.1 h) hl0
      · cases h; exact ⟨g, o, rfl⟩
    obtain ⟨i0, hi0, hz0, hz1, hz2⟩ := info_parts info_att
    have hnews := (hl.below (w' := w.alloc (.cells #[] 40)) ((Below.refl _ _).alloc (Nat.le_refl _) _)).news (att_two l)
    have hfl := rows_length (l.map attC) (att_two l)
    rw [List.length_map, hn] at hfl
    have hone := att_one l
    have hown0 : (w.alloc (.cells #[] 40)).ownsRow w.heap.size 40 2 (.slice (some ⟨w.heap.size, 0, none⟩) 0 0) 0 [] := World.ownsRow_made w #[] 0 (Nat.le_refl _) (Nat.zero_le _) rfl
    have hi0' := Lib.hid hi0; clear hi0
    have hnews' := Lib.hid hnews; clear hnews
    have hfl' := Lib.hid hfl; clear hfl
    have hone' := Lib.hid hone; clear hone
    have hown0' := Lib.hid hown0; clear hown0
    have hl' := Lib.hid hl; clear hl
    have hn' := Lib.hid hn; clear hn
    go_enter Try.func91, Try.ntmps91
    go_wp2_with (at_builtin; refine wpList_append_own _ rfl (.tmp 5) (.tmp 6) 24 rfl w.heap.size 40 i0 (.agg #[.string ⟨#[]⟩, .string ⟨#[]⟩]) 2 32 Try.underlying24 hi0'.out hz0 hz1 hz2 rfl (by decide) (.slice (some ⟨w.heap.size, 0, none⟩) 0 0) 0 [] rfl hown0'.out ⟨g, o, none⟩ n c (l.map attC).flatten rfl hfl'.out hnews'.out hone'.out (by simp only [maxLen]; omega) (by omega) (by simp) ?_; intro v' w1 hown' hgrow _)
    rw [Nat.zero_add, List.nil_append] at hown'
    have hb1 : Hid (Below w.heap.size w w1) := ((Below.refl w.heap.size w).alloc (Nat.le_refl _) _).grown hgrow (by simp) (fun k e => by cases e; exact Nat.le_refl _)
    have hR := RowAt.own hown' (by rw [List.length_map]; exact hn'.out) (att_two l) (by rw [List.length_map, hn'.out]; omega)
    have hlow := hown'.lt
    obtain ⟨g', cap', rfl⟩ : ∃ g' cap', v' = .slice (some ⟨g', 0, none⟩) n cap' := by
      rcases hown'.2 with ⟨_, h⟩ | ⟨g', cap', cur, rfl, _⟩
      · exact absurd (List.eq_nil_of_length_eq_zero (by rw [hn'.out]; exact h)) hl0
      · exact ⟨g', cap', rfl⟩
    go_ret
    exact ⟨⟨_, _, _, rfl, hR, ⟨hn'.out, fun h => absurd h hl0, h9⟩, fun x h => by cases h; exact (hlow _ rfl).1⟩, hb1.out⟩

/-- A device's own row is kept neatly. -/
def DevOk (w : World) (d : Dev) : Prop := DevAt w d ∧ Neat d.att d.aa d.an d.ac
/-- The same device, its attributes' slice another. -/
def sameD (d d' : Dev) : Prop := d'.idx = d.idx ∧ d'.par = d.par ∧ d'.name = d.name ∧ d'.orig = d.orig ∧ d'.sub = d.sub ∧ d'.drv = d.drv ∧ d'.ali = d.ali ∧ d'.kind = d.kind ∧ d'.num = d.num ∧ d'.att = d.att

theorem sizeDev (a : Array Value) (h : a.size = 10) : (Try.prog.info? 42).map (·.size) = some a.size := by
  rw [h]; kernel_rfl
set_option maxRecDepth 100000 in
set_option maxHeartbeats 1000000 in
theorem copied_any (d : Dev) (w : World) (hd : DevOk w d) :
    Calls Try.prog 76 #[devV d] w fun e w' => (∃ d', e = .returned (devV d') ∧ DevOk w' d' ∧ sameD d d' ∧ ∀ x, d'.aa = some x → w.heap.size ≤ x.block) ∧ Below w.heap.size w w' := by
  obtain ⟨x0, x1, x2, x3, x4, x5, x6, x7, x8, xa, xn, xc, xt⟩ := d
  obtain ⟨h1, h2⟩ := hd
  unfold devV
  simp only
  have hbb : Below w.heap.size w ((w.alloc (.cells #[.int .i64 x0, .int .i64 x1, .string x2, .string x3, .string x4, .string x5, .string x6, .int .i64 x7, .int .i64 x8, .slice xa xn xc] 42)).alloc (.cells #[.int .i64 0, .int .i64 0, .string ⟨#[]⟩, .string ⟨#[]⟩, .string ⟨#[]⟩, .string ⟨#[]⟩, .string ⟨#[]⟩, .int .i64 0, .int .i64 0, .slice none 0 0] 42)) := ((Below.refl _ _).alloc (Nat.le_refl _) _).alloc (by simp) _
  have hC := Lib.hid (clone_any xt xa xn xc _ (h1.below hbb) h2)
  have hX : Hid (Blk ((w.alloc (.cells #[.int .i64 x0, .int .i64 x1, .string x2, .string x3, .string x4, .string x5, .string x6, .int .i64 x7, .int .i64 x8, .slice xa xn xc] 42)).alloc (.cells #[.int .i64 0, .int .i64 0, .string ⟨#[]⟩, .string ⟨#[]⟩, .string ⟨#[]⟩, .string ⟨#[]⟩, .string ⟨#[]⟩, .int .i64 0, .int .i64 0, .slice none 0 0] 42)) w.heap.size 42 #[.int .i64 x0, .int .i64 x1, .string x2, .string x3, .string x4, .string x5, .string x6, .int .i64 x7, .int .i64 x8, .slice xa xn xc]) := (Blk.new _ _ _).alloc _
  have hY : Hid (Blk ((w.alloc (.cells #[.int .i64 x0, .int .i64 x1, .string x2, .string x3, .string x4, .string x5, .string x6, .int .i64 x7, .int .i64 x8, .slice xa xn xc] 42)).alloc (.cells #[.int .i64 0, .int .i64 0, .string ⟨#[]⟩, .string ⟨#[]⟩, .string ⟨#[]⟩, .string ⟨#[]⟩, .string ⟨#[]⟩, .int .i64 0, .int .i64 0, .slice none 0 0] 42)) (w.heap.size + 1) 42 #[.int .i64 0, .int .i64 0, .string ⟨#[]⟩, .string ⟨#[]⟩, .string ⟨#[]⟩, .string ⟨#[]⟩, .string ⟨#[]⟩, .int .i64 0, .int .i64 0, .slice none 0 0]) := Blk.new_ _ _ _ (by simp)
  have hb' := Lib.hid hbb; clear hbb h1 h2
  go_enter Try.func76, Try.ntmps76
  go_wp2_with fail
  generalize (w.alloc (.cells #[.int .i64 x0, .int .i64 x1, .string x2, .string x3, .string x4, .string x5, .string x6, .int .i64 x7, .int .i64 x8, .slice xa xn xc] 42)).alloc (.cells #[.int .i64 0, .int .i64 0, .string ⟨#[]⟩, .string ⟨#[]⟩, .string ⟨#[]⟩, .string ⟨#[]⟩, .string ⟨#[]⟩, .int .i64 0, .int .i64 0, .slice none 0 0] 42) = w2 at *
  refine hC.out.mono ?_
  rintro e v1 ⟨⟨a', n', c', rfl, hR, hN, hlow⟩, hb1⟩
  have hw2 : w.heap.size + 1 < w2.heap.size := hY.out.lt
  have hX1 : Blk v1 w.heap.size 42 _ := hX.out.below hb1 hX.out.lt
  have hY1 : Blk v1 (w.heap.size + 1) 42 _ := hY.out.below hb1 hY.out.lt
  have hb2 : Below w.heap.size w v1 := hb'.out.trans (hb1.mono hb'.out.size)
  have z9 := hX1.frozen 9
  have c9 := hX1.cell 9
  simp only [List.getElem?_toArray, List.getElem?_cons_zero, List.getElem?_cons_succ] at c9
  have hX2 : Hid (Blk (v1.setCell ⟨w.heap.size, 9, none⟩ (.slice a' n' c')) w.heap.size 42 #[.int .i64 x0, .int .i64 x1, .string x2, .string x3, .string x4, .string x5, .string x6, .int .i64 x7, .int .i64 x8, .slice a' n' c']) := hX1.store 9 _
  have hY2 : Hid (Blk (v1.setCell ⟨w.heap.size, 9, none⟩ (.slice a' n' c')) (w.heap.size + 1) 42 _) := hY1.other (p := ⟨w.heap.size, 9, none⟩) (Nat.succ_ne_self _) _
  have hb3 : Hid (Below w.heap.size w (v1.setCell ⟨w.heap.size, 9, none⟩ (.slice a' n' c'))) := hb2.setCell (p := ⟨w.heap.size, 9, none⟩) (Nat.le_refl _) _
  have hR2 : Hid (RowAt (v1.setCell ⟨w.heap.size, 9, none⟩ (.slice a' n' c')) (.slice a' n' c') 2 (xt.map attC)) := hR.same (Nat.le_of_eq (by simp)) fun g o n c h => by
    cases h
    have := hlow _ rfl
    exact Below.heap_setCell _ _ _ _ (by simp at this ⊢; omega)
  have hN' := Lib.hid hN
  have hlow' := Lib.hid hlow
  clear hX hY hb' hb1 hX1 hY1 hb2 hR hN hlow hC
  go_upto_region 2 with fail
  clear z9 c9
  generalize v1.setCell ⟨w.heap.size, 9, none⟩ (.slice a' n' c') = v2 at *
  have c0 := hX2.out.cell 0
  have c1 := hX2.out.cell 1
  have c2 := hX2.out.cell 2
  have c3 := hX2.out.cell 3
  have c4 := hX2.out.cell 4
  have c5 := hX2.out.cell 5
  have c6 := hX2.out.cell 6
  have c7 := hX2.out.cell 7
  have c8 := hX2.out.cell 8
  have c9 := hX2.out.cell 9
  simp only [List.getElem?_toArray, List.getElem?_cons_zero, List.getElem?_cons_succ] at c0 c1 c2 c3 c4 c5 c6 c7 c8 c9
  have hZ : Hid (Blk (v2.setRow (w.heap.size + 1) #[.int .i64 x0, .int .i64 x1, .string x2, .string x3, .string x4, .string x5, .string x6, .int .i64 x7, .int .i64 x8, .slice a' n' c']) (w.heap.size + 1) 42 #[.int .i64 x0, .int .i64 x1, .string x2, .string x3, .string x4, .string x5, .string x6, .int .i64 x7, .int .i64 x8, .slice a' n' c']) := hY2.out.row _
  have hB : Hid (Below w.heap.size w (v2.setRow (w.heap.size + 1) #[.int .i64 x0, .int .i64 x1, .string x2, .string x3, .string x4, .string x5, .string x6, .int .i64 x7, .int .i64 x8, .slice a' n' c'])) := below_row hb3.out (Nat.le_succ _) _
  have hR3 : Hid (RowAt (v2.setRow (w.heap.size + 1) #[.int .i64 x0, .int .i64 x1, .string x2, .string x3, .string x4, .string x5, .string x6, .int .i64 x7, .int .i64 x8, .slice a' n' c']) (.slice a' n' c') 2 (xt.map attC)) := hR2.out.same (below_row (Below.refl 0 v2) (Nat.zero_le _) _).size fun g o n c h => by
    cases h
    have := hlow'.out _ rfl
    exact setRow_other _ _ _ _ (by simp at this ⊢; omega)
  have hone : (#[.int .i64 x0, .int .i64 x1, .string x2, .string x3, .string x4, .string x5, .string x6, .int .i64 x7, .int .i64 x8, .slice a' n' c'] : Array Value).all (·.oneCell') = true := by simp [Value.oneCell']
  go_wp2_with (refine wpList_store_row rfl 42 (.tmp 2) (.tmp 7) rfl (w.heap.size + 1) #[.int .i64 x0, .int .i64 x1, .string x2, .string x3, .string x4, .string x5, .string x6, .int .i64 x7, .int .i64 x8, .slice a' n' c'] rfl rfl 42 #[.int .i64 0, .int .i64 0, .string ⟨#[]⟩, .string ⟨#[]⟩, .string ⟨#[]⟩, .string ⟨#[]⟩, .string ⟨#[]⟩, .int .i64 0, .int .i64 0, .slice none 0 0] hY2.out (sizeDev _ rfl) rfl hone ?_)
  exact bodyPost_ret (results_cell_row rfl _ _ (w.heap.size + 1) 42 _ (0, 0) _ rfl hZ.out Try.underlying42 rfl (sizeDev _ rfl)) rfl ⟨⟨⟨x0, x1, x2, x3, x4, x5, x6, x7, x8, a', n', c', xt⟩, rfl, ⟨hR3.out, hN'.out⟩, ⟨rfl, rfl, rfl, rfl, rfl, rfl, rfl, rfl, rfl, rfl⟩, fun x hx => by have := hlow'.out x hx; omega⟩, hB.out⟩

end Go.Proofs.Ytfihccfjboopiaa
