/-
  THE WALKS of tree.Find's closure and of slices.IndexFunc over devices.
  THE WALKS of slices.Clone over attributes, tree.copied, tree.first, tree.Find.
  THE WALKS of tree.first and tree.Find.
-/
import Derived.Test.YtinjeijjfkkhbaaGreatDoorMatchDev
import Derived.Laws.OwnMore
namespace Go.Proofs.YtinjeijjfkkhbaaGreatDoor
open Go.RowKit

def idxD (l : List Dev) (i : Int) : Int := match l.findIdx? (fun d => decide (d.idx = i)) with
  | some k => k
  | none => -1
theorem idxD_none {l : List Dev} {i : Int} (h : ∀ x ∈ l, x.idx ≠ i) : idxD l i = -1 := by
  unfold idxD
  rw [List.findIdx?_eq_none_iff.2 fun x hx => by simp [h x hx]]
theorem idxD_some {l : List Dev} {i : Int} {k : Nat} {d : Dev} (hk : l[k]? = some d) (hb : ∀ j x, j < k → l[j]? = some x → x.idx ≠ i) (hh : d.idx = i) : idxD l i = k := by
  unfold idxD
  have hlt : k < l.length := (List.getElem?_eq_some_iff.1 hk).1
  have he : l[k] = d := (List.getElem?_eq_some_iff.1 hk).2
  have : l.findIdx? (fun d => decide (d.idx = i)) = some k := by
    rw [List.findIdx?_eq_some_iff_getElem]
    refine ⟨hlt, by rw [he]; simp [hh], fun j hj => ?_⟩
    have := hb j _ hj (List.getElem?_eq_getElem (by omega))
    simp [this]
  rw [this]

set_option maxRecDepth 100000 in
theorem isIdx_any (d : Dev) (i : Int) (cb : Nat) (w : World) (hcb : w.cell? ⟨cb, 0, none⟩ = some (.int .i64 i)) :
    Calls Tryz.prog 27 #[devV d, .pointer (some ⟨cb, 0, none⟩)] w fun e w' => e = .returned (.bool (decide (d.idx = i))) ∧ Below w.heap.size w w' := by
  have hlt : cb < w.heap.size := World.block_lt_of_cell? w _ hcb
  have hq : (d.idx == i) = decide (d.idx = i) := by by_cases h : d.idx = i <;> simp [h]
  unfold devV
  have hcb2 : (w.alloc (.cells #[.int .i64 d.idx, .int .i64 d.par, .string d.name, .string d.orig, .string d.sub, .string d.drv, .string d.ali, .int .i64 d.kind, .int .i64 d.num, .slice d.aa d.an d.ac] 40)).cell? ⟨cb, 0, none⟩ = some (.int .i64 i) := by
    rw [World.cell?_alloc_lt _ _ _ hlt]; exact hcb
  generalize decide (d.idx = i) = b at *
  go_enter Tryz.func27, Tryz.ntmps27
  go_wp2_with fail
  go_ret
  exact ⟨by first | rfl | (rw [← hq]; rfl), (Below.refl _ _).alloc (Nat.le_refl _) _⟩

set_option maxRecDepth 100000 in
set_option maxHeartbeats 2000000 in
theorem indexD_any (l : List Dev) (v : Value) (i : Int) (cb : Nat) (w : World) (hl : DevsAt w v l) (hcb : w.cell? ⟨cb, 0, none⟩ = some (.int .i64 i)) :
    Calls Tryz.prog 55 #[v, .func (Fn.func 27) #[] #[.pointer (some ⟨cb, 0, none⟩)]] w fun e w' => e = .returned (.int .i64 (idxD l i)) ∧ Below w.heap.size w w' := by
  have hlt : cb < w.heap.size := World.block_lt_of_cell? w _ hcb
  obtain ⟨⟨hlen, hl2⟩, _⟩ := hl
  rcases hl2 with ⟨rfl, h0⟩ | ⟨g, o, cap, rfl, hg, hcells⟩
  · have hl0 : l = [] := List.map_eq_nil_iff.1 h0
    subst hl0
    go_enter Tryz.func55, Tryz.ntmps55
    go_wp2_with fail
    go_loopw [8] (fun s8 wr => s8 = .int .i64 0 ∧ Below w.heap.size w wr) (fun _ _ => 0)
    case atStart => exact ⟨rfl, Below.refl _ _⟩
    case round =>
      obtain ⟨rfl, hb⟩ := hrel
      have hb' := Lib.hid hb; clear hb
      go_wp2_with fail
      go_ret
      exact ⟨rfl, hb'.out⟩
  · rw [List.length_map] at hlen ⊢
    have hP := fun d W (hc : W.cell? ⟨cb, 0, none⟩ = some (.int .i64 i)) => isIdx_any d i cb W hc
    have hP' := Lib.hid hP; clear hP
    obtain ⟨n, hn⟩ : ∃ n, l.length = n := ⟨_, rfl⟩
    rw [hn] at hlen ⊢
    have hn' := Lib.hid hn; clear hn
    have hcells' : Hid (∀ (k : Nat) (d : Dev), l[k]? = some d → ∀ (j : Nat) (u : Value), (devC d)[j]? = some u → w.cell? ⟨g, o + k * 10 + j, none⟩ = some u) := fun k d hd => hcells k (devC d) (by rw [List.getElem?_map, hd]; rfl)
    clear hcells
    have hcb' := Lib.hid hcb; clear hcb
    go_enter Tryz.func55, Tryz.ntmps55
    go_wp2_with fail
    go_loopw [8] (fun s8 wr => ∃ k : Nat, s8 = .int .i64 k ∧ k ≤ n ∧ Hid (Below w.heap.size w wr) ∧ Hid (∀ j x, j < k → l[j]? = some x → x.idx ≠ i)) (fun s8 _ => n - (intOf s8).toNat)
    case atStart => exact ⟨0, rfl, by omega, Below.refl _ _, fun j x hj => by omega⟩
    case round =>
      obtain ⟨k, rfl, hk, hb', hno⟩ := hrel
      by_cases hkn : k < n
      · obtain ⟨d, hd⟩ : ∃ d, l[k]? = some d := ⟨_, List.getElem?_eq_getElem (by have := hn'.out; omega)⟩
        have e : ∀ i, wr.cell? ⟨g, i, none⟩ = w.cell? ⟨g, i, none⟩ := fun i => World.cell?_of_block (hb'.out.block g hg)
        have hc := hcells'.out k d hd
        simp only [← e] at hc
        have c0 : wr.cell? ⟨g, o + k * 10, none⟩ = some (.int .i64 d.idx) := hc 0 _ rfl
        have c1 := hc 1 _ rfl
        have c2 := hc 2 _ rfl
        have c3 := hc 3 _ rfl
        have c4 := hc 4 _ rfl
        have c5 := hc 5 _ rfl
        have c6 := hc 6 _ rfl
        have c7 := hc 7 _ rfl
        have c8 := hc 8 _ rfl
        have c9 := hc 9 _ rfl
        have hcr : wr.cell? ⟨cb, 0, none⟩ = some (.int .i64 i) := (World.cell?_of_block (hb'.out.block cb hlt)).trans hcb'.out
        have hC := hP'.out d wr hcr
        unfold devV at hC
        have ik : (k : Int) < (n : Int) := by omega
        have ik0 : (0 : Int) ≤ (k : Int) := by omega
        have hC' := Lib.hid hC; clear hC hcr e hc
        have hd' := Lib.hid hd; clear hd
        obtain ⟨x0, x1, x2, x3, x4, x5, x6, x7, x8, xa, xn, xc, xt⟩ := d
        simp only [Dev.atv] at c0 c1 c2 c3 c4 c5 c6 c7 c8 c9 hC'
        by_cases hx : x0 = i
        · have hfin := idxD_some hd'.out hno.out hx
          have hfin' := Lib.hid hfin; clear hfin
          rw [decide_eq_true hx] at hC'
          clear hx
          go_wp2_with fail
          refine hC'.out.mono ?_
          rintro e v1 ⟨rfl, hb1⟩
          have k1' := Lib.hid (hb'.out.trans (hb1.mono hb'.out.size)); clear hb1
          go_wp2_with fail
          go_ret
          exact ⟨by rw [hfin'.out]; rfl, k1'.out⟩
        · rw [decide_eq_false hx] at hC'
          have hno2 : Hid (∀ j x, j < k + 1 → l[j]? = some x → x.idx ≠ i) := fun j x hj hx2 => by
            rcases Nat.lt_or_ge j k with h | h
            · exact hno.out j x h hx2
            · obtain rfl : j = k := by omega
              rw [hd'.out] at hx2
              cases hx2
              exact hx
          clear hno hx
          go_wp2_with fail
          refine hC'.out.mono ?_
          rintro e v1 ⟨rfl, hb1⟩
          have k1' := Lib.hid (hb'.out.trans (hb1.mono hb'.out.size)); clear hb1
          go_wp2_with fail
          go_roundw
          case rel => exact ⟨k + 1, by go_num, by omega, k1', hno2⟩
          case measure => simp [intOf]; omega
      · obtain rfl : k = n := by omega
        have hfin : idxD l i = -1 := idxD_none fun x hx => by
          obtain ⟨j, hj⟩ := List.getElem?_of_mem hx
          exact hno.out j x (by have := (List.getElem?_eq_some_iff.1 hj).1; have := hn'.out; omega) hj
        have hfin' := Lib.hid hfin; clear hfin hno
        go_wp2_with fail
        go_ret
        exact ⟨by rw [hfin'.out]; rfl, hb'.out⟩

end Go.Proofs.YtinjeijjfkkhbaaGreatDoor

namespace Go.Proofs.YtinjeijjfkkhbaaGreatDoor
open Go.RowKit

theorem rows_get {sz : Nat} : ∀ (l : List (List Value)), (∀ x ∈ l, x.length = sz) → ∀ (j : Nat) (u : Value), l.flatten[j]? = some u → ∃ k i xs, l[k]? = some xs ∧ xs[i]? = some u ∧ j = k * sz + i
  | [], _, j, u, h => by simp at h
  | x :: l, hl, j, u, h => by
    rw [List.flatten_cons] at h
    have hx := hl x (by simp)
    by_cases hj : j < x.length
    · rw [List.getElem?_append_left hj] at h
      exact ⟨0, j, x, rfl, h, by omega⟩
    · rw [List.getElem?_append_right (by omega)] at h
      obtain ⟨k, i, xs, h1, h2, h3⟩ := rows_get l (fun y hy => hl y (by simp [hy])) _ u h
      refine ⟨k + 1, i, xs, by simpa using h1, h2, ?_⟩
      rw [Nat.succ_mul]
      omega
theorem rows_at {sz : Nat} : ∀ (l : List (List Value)), (∀ x ∈ l, x.length = sz) → ∀ (k : Nat) (xs : List Value), l[k]? = some xs → ∀ (i : Nat) (u : Value), xs[i]? = some u → l.flatten[k * sz + i]? = some u
  | [], _, k, xs, h, _, _, _ => by cases h
  | x :: l, hl, 0, xs, h, i, u, hu => by
    simp at h
    subst h
    rw [List.flatten_cons, Nat.zero_mul, Nat.zero_add, List.getElem?_append_left (List.getElem?_eq_some_iff.1 hu).1]
    exact hu
  | x :: l, hl, k + 1, xs, h, i, u, hu => by
    have hx := hl x (by simp)
    have := rows_at l (fun y hy => hl y (by simp [hy])) k xs (by simpa using h) i u hu
    rw [List.flatten_cons, List.getElem?_append_right (by rw [Nat.succ_mul]; omega)]
    rw [← this]
    congr 1
    rw [Nat.succ_mul]
    omega
theorem rows_length {sz : Nat} : ∀ (l : List (List Value)), (∀ x ∈ l, x.length = sz) → l.flatten.length = l.length * sz
  | [], _ => by simp
  | x :: l, hl => by
    rw [List.flatten_cons, List.length_append, rows_length l (fun y hy => hl y (by simp [hy])), hl x (by simp), List.length_cons, Nat.succ_mul]
    omega
theorem addr_add (g o n : Nat) : (⟨g, o, none⟩ : Addr).add n = ⟨g, o + n, none⟩ := by
  unfold Addr.add
  split
  · rename_i h; rw [h]; rfl
  · rfl
theorem RowAt.news {w : World} {g o n cap sz : Nat} {l : List (List Value)} (h : RowAt w (.slice (some ⟨g, o, none⟩) n cap) sz l) (hl : ∀ x ∈ l, x.length = sz) : ∀ j u, l.flatten[j]? = some u → w.cell? ((⟨g, o, none⟩ : Addr).add j) = some u := fun j u hu => by
  obtain ⟨k, i, xs, h1, h2, rfl⟩ := rows_get l hl j u hu
  rcases h.2 with ⟨h0, _⟩ | ⟨g', o', cap', h0, _, hc⟩
  · cases h0
  · cases h0
    have := hc k xs h1 i u h2
    rw [addr_add, ← Nat.add_assoc]
    exact this
/-- A row of the call's own, to be read. -/
theorem RowAt.own {w : World} {B sz n : Nat} {e : TypeId} {v : Value} {l : List (List Value)} (h : w.ownsRow B e sz v n l.flatten) (hn : l.length = n) (hl : ∀ x ∈ l, x.length = sz) (h9 : l.length ≤ 9223372036854775807) : RowAt w v sz l := by
  refine ⟨h9, ?_⟩
  rcases h.2 with ⟨rfl, h0⟩ | ⟨g, cap, cur, rfl, _, hg, _⟩
  · exact .inl ⟨rfl, List.eq_nil_of_length_eq_zero (by omega)⟩
  · refine .inr ⟨g, 0, cap, by rw [hn], (Array.getElem?_eq_some_iff.1 hg).1, fun k xs hx j u hu => ?_⟩
    have hk : k < l.length := (List.getElem?_eq_some_iff.1 hx).1
    have hj : j < sz := by rw [← hl xs (List.mem_of_getElem? hx)]; exact (List.getElem?_eq_some_iff.1 hu).1
    have hfl := rows_at l hl k xs hx j u hu
    have hlt : k * sz + j < n * sz := by
      have : (k + 1) * sz ≤ n * sz := Nat.mul_le_mul_right _ (by omega)
      rw [Nat.succ_mul] at this
      omega
    rw [Nat.zero_add]
    exact (World.ownsRow.cellAt h (k * sz + j) hlt).trans hfl

theorem att_two (l : List Att) : ∀ x ∈ l.map attC, x.length = 2 := fun x hx => by
  obtain ⟨y, _, rfl⟩ := List.mem_map.1 hx
  rfl
theorem att_one (l : List Att) : ∀ u ∈ (l.map attC).flatten, u.oneCell' = true := fun u hu => by
  obtain ⟨x, hx, hu⟩ := List.mem_flatten.1 hu
  obtain ⟨y, _, rfl⟩ := List.mem_map.1 hx
  simp [attC] at hu
  rcases hu with rfl | rfl <;> rfl
theorem info_att : (Tryz.prog.info? 50).map (fun i => (i.zero, i.size, i.bytes)) = some (some (.agg #[.string ⟨#[]⟩, .string ⟨#[]⟩]), 2, 32) := by kernel_rfl

theorem eql_nil (W : World) : (binOp .eql 38 (.slice none 0 0) (.slice none 0 0)).run Tryz.prog W = .ok (.bool true) W := by kernel_rfl
theorem eql_some (a : Addr) (n c : Nat) (W : World) : (binOp .eql 38 (.slice (some a) n c) (.slice none 0 0)).run Tryz.prog W = .ok (.bool false) W := by kernel_rfl
attribute [local go_sem] eql_nil eql_some

/-- What a list of attributes is kept by: nil where there is none. -/
def Neat (l : List Att) (a : Option Addr) (n c : Nat) : Prop := l.length = n ∧ (l = [] → a = none ∧ c = 0) ∧ n ≤ 1000000000

set_option maxRecDepth 100000 in
set_option maxHeartbeats 1000000 in
theorem clone_any (l : List Att) (a : Option Addr) (n c : Nat) (w : World) (hl : RowAt w (.slice a n c) 2 (l.map attC)) (h0 : Neat l a n c) :
    Calls Tryz.prog 58 #[.slice a n c] w fun e w' => (∃ a' n' c', e = .returned (.slice a' n' c') ∧ RowAt w' (.slice a' n' c') 2 (l.map attC) ∧ Neat l a' n' c' ∧ ∀ x, a' = some x → w.heap.size ≤ x.block) ∧ Below w.heap.size w w' := by
  obtain ⟨hn, hz, h9⟩ := h0
  by_cases hl0 : l = []
  · obtain ⟨rfl, rfl⟩ := hz hl0
    subst hl0
    obtain rfl : n = 0 := hn.symm
    go_enter Tryz.func58, Tryz.ntmps58
    go_wp2_with fail
    go_ret
    exact ⟨⟨none, 0, 0, rfl, ⟨Nat.zero_le _, .inl ⟨rfl, rfl⟩⟩, ⟨rfl, fun _ => ⟨rfl, rfl⟩, Nat.zero_le _⟩, fun x h => by cases h⟩, Below.refl _ _⟩
  · have hlen := h9
    obtain ⟨g, o, rfl⟩ : ∃ g o, a = some ⟨g, o, none⟩ := by
      rcases hl.2 with ⟨_, h⟩ | ⟨g, o, cap, h, _⟩
      · exact absurd (List.map_eq_nil_iff.1 h) hl0
      · cases h; exact ⟨g, o, rfl⟩
    obtain ⟨i0, hi0, hz0, hz1, hz2⟩ := info_parts info_att
    have hnews := (hl.below (w' := w.alloc (.cells #[] 50)) ((Below.refl _ _).alloc (Nat.le_refl _) _)).news (att_two l)
    have hfl := rows_length (l.map attC) (att_two l)
    rw [List.length_map, hn] at hfl
    have hone := att_one l
    have hown0 : (w.alloc (.cells #[] 50)).ownsRow w.heap.size 50 2 (.slice (some ⟨w.heap.size, 0, none⟩) 0 0) 0 [] := World.ownsRow_made w #[] 0 (Nat.le_refl _) (Nat.zero_le _) rfl
    have hi0' := Lib.hid hi0; clear hi0
    have hnews' := Lib.hid hnews; clear hnews
    have hfl' := Lib.hid hfl; clear hfl
    have hone' := Lib.hid hone; clear hone
    have hown0' := Lib.hid hown0; clear hown0
    have hl' := Lib.hid hl; clear hl
    have hn' := Lib.hid hn; clear hn
    go_enter Tryz.func58, Tryz.ntmps58
    go_wp2_with (at_builtin; refine wpList_append_own _ rfl (.tmp 5) (.tmp 6) 38 rfl w.heap.size 50 i0 (.agg #[.string ⟨#[]⟩, .string ⟨#[]⟩]) 2 32 Tryz.underlying38 hi0'.out hz0 hz1 hz2 rfl (by decide) (.slice (some ⟨w.heap.size, 0, none⟩) 0 0) 0 [] rfl hown0'.out ⟨g, o, none⟩ n c (l.map attC).flatten rfl hfl'.out hnews'.out hone'.out (by simp only [maxLen]; omega) (by omega) (by simp) ?_; intro v' w1 hown' hgrow _)
    rw [Nat.zero_add, List.nil_append] at hown'
    have hb1 : Hid (Below w.heap.size w w1) := ((Below.refl w.heap.size w).alloc (Nat.le_refl _) _).grown hgrow (by simp) (fun k e => by cases e; exact Nat.le_refl _)
    have hR := RowAt.own hown' (by rw [List.length_map]; exact hn'.out) (att_two l) (by rw [List.length_map, hn'.out]; omega)
    have hlow := hown'.lt
    obtain ⟨g', cap', rfl⟩ : ∃ g' cap', v' = .slice (some ⟨g', 0, none⟩) n cap' := by
      rcases hown'.2 with ⟨_, h⟩ | ⟨g', cap', cur, rfl, _⟩
      · exact absurd (List.eq_nil_of_length_eq_zero (by rw [hn'.out]; exact h)) hl0
      · exact ⟨g', cap', rfl⟩
    go_ret
    exact ⟨⟨_, _, _, rfl, hR, ⟨hn'.out, fun h => absurd h hl0, h9⟩, fun x h => by cases h; exact (hlow _ rfl).1⟩, hb1.out⟩

/-- A device's own row is kept neatly. -/
def DevOk (w : World) (d : Dev) : Prop := DevAt w d ∧ Neat d.att d.aa d.an d.ac
/-- The same device, its attributes' slice another. -/
def sameD (d d' : Dev) : Prop := d'.idx = d.idx ∧ d'.par = d.par ∧ d'.name = d.name ∧ d'.orig = d.orig ∧ d'.sub = d.sub ∧ d'.drv = d.drv ∧ d'.ali = d.ali ∧ d'.kind = d.kind ∧ d'.num = d.num ∧ d'.att = d.att

theorem sizeDev (a : Array Value) (h : a.size = 10) : (Tryz.prog.info? 40).map (·.size) = some a.size := by
  rw [h]; kernel_rfl
set_option maxRecDepth 100000 in
set_option maxHeartbeats 1000000 in
theorem copied_any (d : Dev) (w : World) (hd : DevOk w d) :
    Calls Tryz.prog 30 #[devV d] w fun e w' => (∃ d', e = .returned (devV d') ∧ DevOk w' d' ∧ sameD d d' ∧ ∀ x, d'.aa = some x → w.heap.size ≤ x.block) ∧ Below w.heap.size w w' := by
  obtain ⟨x0, x1, x2, x3, x4, x5, x6, x7, x8, xa, xn, xc, xt⟩ := d
  obtain ⟨h1, h2⟩ := hd
  unfold devV
  simp only
  have hbb : Below w.heap.size w ((w.alloc (.cells #[.int .i64 x0, .int .i64 x1, .string x2, .string x3, .string x4, .string x5, .string x6, .int .i64 x7, .int .i64 x8, .slice xa xn xc] 40)).alloc (.cells #[.int .i64 0, .int .i64 0, .string ⟨#[]⟩, .string ⟨#[]⟩, .string ⟨#[]⟩, .string ⟨#[]⟩, .string ⟨#[]⟩, .int .i64 0, .int .i64 0, .slice none 0 0] 40)) := ((Below.refl _ _).alloc (Nat.le_refl _) _).alloc (by simp) _
  have hC := Lib.hid (clone_any xt xa xn xc _ (h1.below hbb) h2)
  have hX : Hid (Blk ((w.alloc (.cells #[.int .i64 x0, .int .i64 x1, .string x2, .string x3, .string x4, .string x5, .string x6, .int .i64 x7, .int .i64 x8, .slice xa xn xc] 40)).alloc (.cells #[.int .i64 0, .int .i64 0, .string ⟨#[]⟩, .string ⟨#[]⟩, .string ⟨#[]⟩, .string ⟨#[]⟩, .string ⟨#[]⟩, .int .i64 0, .int .i64 0, .slice none 0 0] 40)) w.heap.size 40 #[.int .i64 x0, .int .i64 x1, .string x2, .string x3, .string x4, .string x5, .string x6, .int .i64 x7, .int .i64 x8, .slice xa xn xc]) := (Blk.new _ _ _).alloc _
  have hY : Hid (Blk ((w.alloc (.cells #[.int .i64 x0, .int .i64 x1, .string x2, .string x3, .string x4, .string x5, .string x6, .int .i64 x7, .int .i64 x8, .slice xa xn xc] 40)).alloc (.cells #[.int .i64 0, .int .i64 0, .string ⟨#[]⟩, .string ⟨#[]⟩, .string ⟨#[]⟩, .string ⟨#[]⟩, .string ⟨#[]⟩, .int .i64 0, .int .i64 0, .slice none 0 0] 40)) (w.heap.size + 1) 40 #[.int .i64 0, .int .i64 0, .string ⟨#[]⟩, .string ⟨#[]⟩, .string ⟨#[]⟩, .string ⟨#[]⟩, .string ⟨#[]⟩, .int .i64 0, .int .i64 0, .slice none 0 0]) := Blk.new_ _ _ _ (by simp)
  have hb' := Lib.hid hbb; clear hbb h1 h2
  go_enter Tryz.func30, Tryz.ntmps30
  go_wp2_with fail
  generalize (w.alloc (.cells #[.int .i64 x0, .int .i64 x1, .string x2, .string x3, .string x4, .string x5, .string x6, .int .i64 x7, .int .i64 x8, .slice xa xn xc] 40)).alloc (.cells #[.int .i64 0, .int .i64 0, .string ⟨#[]⟩, .string ⟨#[]⟩, .string ⟨#[]⟩, .string ⟨#[]⟩, .string ⟨#[]⟩, .int .i64 0, .int .i64 0, .slice none 0 0] 40) = w2 at *
  refine hC.out.mono ?_
  rintro e v1 ⟨⟨a', n', c', rfl, hR, hN, hlow⟩, hb1⟩
  have hw2 : w.heap.size + 1 < w2.heap.size := hY.out.lt
  have hX1 : Blk v1 w.heap.size 40 _ := hX.out.below hb1 hX.out.lt
  have hY1 : Blk v1 (w.heap.size + 1) 40 _ := hY.out.below hb1 hY.out.lt
  have hb2 : Below w.heap.size w v1 := hb'.out.trans (hb1.mono hb'.out.size)
  have z9 := hX1.frozen 9
  have c9 := hX1.cell 9
  simp only [List.getElem?_toArray, List.getElem?_cons_zero, List.getElem?_cons_succ] at c9
  have hX2 : Hid (Blk (v1.setCell ⟨w.heap.size, 9, none⟩ (.slice a' n' c')) w.heap.size 40 #[.int .i64 x0, .int .i64 x1, .string x2, .string x3, .string x4, .string x5, .string x6, .int .i64 x7, .int .i64 x8, .slice a' n' c']) := hX1.store 9 _
  have hY2 : Hid (Blk (v1.setCell ⟨w.heap.size, 9, none⟩ (.slice a' n' c')) (w.heap.size + 1) 40 _) := hY1.other (p := ⟨w.heap.size, 9, none⟩) (Nat.succ_ne_self _) _
  have hb3 : Hid (Below w.heap.size w (v1.setCell ⟨w.heap.size, 9, none⟩ (.slice a' n' c'))) := hb2.setCell (p := ⟨w.heap.size, 9, none⟩) (Nat.le_refl _) _
  have hR2 : Hid (RowAt (v1.setCell ⟨w.heap.size, 9, none⟩ (.slice a' n' c')) (.slice a' n' c') 2 (xt.map attC)) := hR.same (Nat.le_of_eq (by simp)) fun g o n c h => by
    cases h
    have := hlow _ rfl
    exact Below.heap_setCell _ _ _ _ (by simp at this ⊢; omega)
  have hN' := Lib.hid hN
  have hlow' := Lib.hid hlow
  clear hX hY hb' hb1 hX1 hY1 hb2 hR hN hlow hC
  go_upto_region 2 with fail
  clear z9 c9
  generalize v1.setCell ⟨w.heap.size, 9, none⟩ (.slice a' n' c') = v2 at *
  have c0 := hX2.out.cell 0
  have c1 := hX2.out.cell 1
  have c2 := hX2.out.cell 2
  have c3 := hX2.out.cell 3
  have c4 := hX2.out.cell 4
  have c5 := hX2.out.cell 5
  have c6 := hX2.out.cell 6
  have c7 := hX2.out.cell 7
  have c8 := hX2.out.cell 8
  have c9 := hX2.out.cell 9
  simp only [List.getElem?_toArray, List.getElem?_cons_zero, List.getElem?_cons_succ] at c0 c1 c2 c3 c4 c5 c6 c7 c8 c9
  have hZ : Hid (Blk (v2.setRow (w.heap.size + 1) #[.int .i64 x0, .int .i64 x1, .string x2, .string x3, .string x4, .string x5, .string x6, .int .i64 x7, .int .i64 x8, .slice a' n' c']) (w.heap.size + 1) 40 #[.int .i64 x0, .int .i64 x1, .string x2, .string x3, .string x4, .string x5, .string x6, .int .i64 x7, .int .i64 x8, .slice a' n' c']) := hY2.out.row _
  have hB : Hid (Below w.heap.size w (v2.setRow (w.heap.size + 1) #[.int .i64 x0, .int .i64 x1, .string x2, .string x3, .string x4, .string x5, .string x6, .int .i64 x7, .int .i64 x8, .slice a' n' c'])) := below_row hb3.out (Nat.le_succ _) _
  have hR3 : Hid (RowAt (v2.setRow (w.heap.size + 1) #[.int .i64 x0, .int .i64 x1, .string x2, .string x3, .string x4, .string x5, .string x6, .int .i64 x7, .int .i64 x8, .slice a' n' c']) (.slice a' n' c') 2 (xt.map attC)) := hR2.out.same (below_row (Below.refl 0 v2) (Nat.zero_le _) _).size fun g o n c h => by
    cases h
    have := hlow'.out _ rfl
    exact setRow_other _ _ _ _ (by simp at this ⊢; omega)
  have hone : (#[.int .i64 x0, .int .i64 x1, .string x2, .string x3, .string x4, .string x5, .string x6, .int .i64 x7, .int .i64 x8, .slice a' n' c'] : Array Value).all (·.oneCell') = true := by simp [Value.oneCell']
  go_wp2_with (refine wpList_store_row rfl 40 (.tmp 2) (.tmp 7) rfl (w.heap.size + 1) #[.int .i64 x0, .int .i64 x1, .string x2, .string x3, .string x4, .string x5, .string x6, .int .i64 x7, .int .i64 x8, .slice a' n' c'] rfl rfl 40 #[.int .i64 0, .int .i64 0, .string ⟨#[]⟩, .string ⟨#[]⟩, .string ⟨#[]⟩, .string ⟨#[]⟩, .string ⟨#[]⟩, .int .i64 0, .int .i64 0, .slice none 0 0] hY2.out (sizeDev _ rfl) rfl hone ?_)
  exact bodyPost_ret (results_cell_row rfl _ _ (w.heap.size + 1) 40 _ (0, 0) _ rfl hZ.out Tryz.underlying40 rfl (sizeDev _ rfl)) rfl ⟨⟨⟨x0, x1, x2, x3, x4, x5, x6, x7, x8, a', n', c', xt⟩, rfl, ⟨hR3.out, hN'.out⟩, ⟨rfl, rfl, rfl, rfl, rfl, rfl, rfl, rfl, rfl, rfl⟩, fun x hx => by have := hlow'.out x hx; omega⟩, hB.out⟩

end Go.Proofs.YtinjeijjfkkhbaaGreatDoor

namespace Go.Proofs.YtinjeijjfkkhbaaGreatDoor
open Go.RowKit

def zeroDev : Value := .agg #[.int .i64 0, .int .i64 0, .string ⟨#[]⟩, .string ⟨#[]⟩, .string ⟨#[]⟩, .string ⟨#[]⟩, .string ⟨#[]⟩, .int .i64 0, .int .i64 0, .slice none 0 0]
theorem idxD_cases (l : List Dev) (i : Int) : (idxD l i = -1 ∧ ∀ x ∈ l, x.idx ≠ i) ∨ ∃ (k : Nat) (d : Dev), idxD l i = k ∧ l[k]? = some d ∧ d.idx = i ∧ ∀ j x, j < k → l[j]? = some x → x.idx ≠ i := by
  unfold idxD
  cases h : l.findIdx? (fun d => decide (d.idx = i)) with
  | none =>
    refine .inl ⟨rfl, fun x hx e => ?_⟩
    have := List.findIdx?_eq_none_iff.1 h x hx
    simp [e] at this
  | some k =>
    obtain ⟨hlt, h1, h2⟩ := List.findIdx?_eq_some_iff_getElem.1 h
    refine .inr ⟨k, l[k], rfl, List.getElem?_eq_getElem hlt, by simpa using h1, fun j x hj hx => ?_⟩
    have := h2 j hj
    have hjl : j < l.length := by omega
    rw [List.getElem?_eq_getElem hjl] at hx
    cases hx
    simpa using this
/-- What tree.first and tree.Find hand back. -/
def FindPost (B : Nat) (l : List Dev) (i : Int) (e : Ending) (w' : World) : Prop :=
  ((∀ x ∈ l, x.idx ≠ i) ∧ e = .returned (.tuple #[zeroDev, .bool false])) ∨
  ∃ (k : Nat) (d d' : Dev), l[k]? = some d ∧ d.idx = i ∧ (∀ j x, j < k → l[j]? = some x → x.idx ≠ i) ∧ sameD d d' ∧ DevOk w' d' ∧ (∀ x, d'.aa = some x → B ≤ x.block) ∧ e = .returned (.tuple #[devV d', .bool true])
theorem DevOk.below {w w' : World} {d : Dev} (h : DevOk w d) (hb : Below w.heap.size w w') : DevOk w' d := ⟨h.1.below hb, h.2⟩
theorem DevOk.same {w w' : World} {d : Dev} (h : DevOk w d) (hs : w.heap.size ≤ w'.heap.size) (hb : ∀ x, d.aa = some x → w'.heap[x.block]? = w.heap[x.block]?) : DevOk w' d :=
  ⟨RowAt.same h.1 hs fun g o n c e => by
    have e : Value.slice d.aa d.an d.ac = .slice (some ⟨g, o, none⟩) n c := e
    injection e with e1 _ _
    exact hb _ e1, h.2⟩

set_option maxRecDepth 100000 in
set_option maxHeartbeats 2000000 in
theorem first_any (l : List Dev) (p : Option Addr) (n c : Nat) (i : Int) (cb : Nat) (w : World) (hl : DevsAt w (.slice p n c) l) (hok : ∀ d ∈ l, Neat d.att d.aa d.an d.ac) (hcb : w.cell? ⟨cb, 0, none⟩ = some (.int .i64 i)) :
    Calls Tryz.prog 26 #[.agg #[.slice p n c], .func (Fn.func 27) #[] #[.pointer (some ⟨cb, 0, none⟩)]] w fun e w' => FindPost w.heap.size l i e w' ∧ Below w.heap.size w w' := by
  have hlt : cb < w.heap.size := World.block_lt_of_cell? w _ hcb
  have hbb : Below w.heap.size w ((w.alloc (.cells #[.slice p n c] 30)).alloc (.cells #[.int .i64 0, .int .i64 0, .string ⟨#[]⟩, .string ⟨#[]⟩, .string ⟨#[]⟩, .string ⟨#[]⟩, .string ⟨#[]⟩, .int .i64 0, .int .i64 0, .slice none 0 0] 40)) := ((Below.refl _ _).alloc (Nat.le_refl _) _).alloc (by simp) _
  have hI := Lib.hid (indexD_any l (.slice p n c) i cb _ (hl.below hbb) ((World.cell?_of_block (hbb.block cb hlt)).trans hcb))
  have hX : Hid (Blk ((w.alloc (.cells #[.slice p n c] 30)).alloc (.cells #[.int .i64 0, .int .i64 0, .string ⟨#[]⟩, .string ⟨#[]⟩, .string ⟨#[]⟩, .string ⟨#[]⟩, .string ⟨#[]⟩, .int .i64 0, .int .i64 0, .slice none 0 0] 40)) w.heap.size 30 #[.slice p n c]) := (Blk.new _ _ _).alloc _
  have hY : Hid (Blk ((w.alloc (.cells #[.slice p n c] 30)).alloc (.cells #[.int .i64 0, .int .i64 0, .string ⟨#[]⟩, .string ⟨#[]⟩, .string ⟨#[]⟩, .string ⟨#[]⟩, .string ⟨#[]⟩, .int .i64 0, .int .i64 0, .slice none 0 0] 40)) (w.heap.size + 1) 40 #[.int .i64 0, .int .i64 0, .string ⟨#[]⟩, .string ⟨#[]⟩, .string ⟨#[]⟩, .string ⟨#[]⟩, .string ⟨#[]⟩, .int .i64 0, .int .i64 0, .slice none 0 0]) := Blk.new_ _ _ _ (by simp)
  have hl' := Lib.hid hl
  have hok' := Lib.hid hok
  have hb' := Lib.hid hbb; clear hbb hl hok hcb
  go_enter Tryz.func26, Tryz.ntmps26
  go_wp2_with fail
  generalize (w.alloc (.cells #[.slice p n c] 30)).alloc (.cells #[.int .i64 0, .int .i64 0, .string ⟨#[]⟩, .string ⟨#[]⟩, .string ⟨#[]⟩, .string ⟨#[]⟩, .string ⟨#[]⟩, .int .i64 0, .int .i64 0, .slice none 0 0] 40) = w2 at *
  refine hI.out.mono ?_
  rintro e v1 ⟨rfl, hb1⟩
  have hX1 : Hid (Blk v1 w.heap.size 30 #[.slice p n c]) := hX.out.below hb1 hX.out.lt
  have hY1 : Hid (Blk v1 (w.heap.size + 1) 40 #[.int .i64 0, .int .i64 0, .string ⟨#[]⟩, .string ⟨#[]⟩, .string ⟨#[]⟩, .string ⟨#[]⟩, .string ⟨#[]⟩, .int .i64 0, .int .i64 0, .slice none 0 0]) := hY.out.below hb1 hY.out.lt
  have hb2 : Hid (Below w.heap.size w v1) := hb'.out.trans (hb1.mono hb'.out.size)
  clear hX hY hb' hb1 hI
  have c0 := hX1.out.cell 0
  simp only [List.getElem?_toArray, List.getElem?_cons_zero] at c0
  rcases idxD_cases l i with ⟨hi, hno⟩ | ⟨k, d, hi, hk, hd, hno⟩
  · rw [hi]
    have hno' := Lib.hid hno; clear hno hi
    have hone : (#[.int .i64 0, .int .i64 0, .string ⟨#[]⟩, .string ⟨#[]⟩, .string ⟨#[]⟩, .string ⟨#[]⟩, .string ⟨#[]⟩, .int .i64 0, .int .i64 0, .slice none 0 0] : Array Value).all (·.oneCell') = true := by simp [Value.oneCell']
    go_wp2_with (refine wpList_store_row rfl 40 (.tmp 4) (.tmp 13) rfl (w.heap.size + 1) #[.int .i64 0, .int .i64 0, .string ⟨#[]⟩, .string ⟨#[]⟩, .string ⟨#[]⟩, .string ⟨#[]⟩, .string ⟨#[]⟩, .int .i64 0, .int .i64 0, .slice none 0 0] rfl rfl 40 #[.int .i64 0, .int .i64 0, .string ⟨#[]⟩, .string ⟨#[]⟩, .string ⟨#[]⟩, .string ⟨#[]⟩, .string ⟨#[]⟩, .int .i64 0, .int .i64 0, .slice none 0 0] hY1.out (sizeDev _ rfl) rfl hone ?_)
    exact bodyPost_ret (results_row_tmp rfl _ _ (w.heap.size + 1) 40 _ _ rfl (hY1.out.row _) Tryz.underlying40 rfl (sizeDev _ rfl)) rfl ⟨.inl ⟨hno'.out, rfl⟩, below_row hb2.out (Nat.le_succ _) _⟩
  · rw [hi]
    have hdl := hl'.out.below hb2.out
    obtain ⟨⟨hlen, hl2⟩, hda⟩ := hdl
    rcases hl2 with ⟨_, h0⟩ | ⟨g, o, cap, hsl, hg, hcells⟩
    · have : l = [] := List.map_eq_nil_iff.1 h0
      subst this
      cases hk
    · rw [List.length_map] at hsl hlen
      injection hsl with e1 e2 e3
      subst e1 e2 e3
      have hkl : k < l.length := (List.getElem?_eq_some_iff.1 hk).1
      have hc := hcells k (devC d) (by rw [List.getElem?_map, hk]; rfl)
      have q0 : v1.cell? ⟨g, o + k * 10, none⟩ = some (.int .i64 d.idx) := hc 0 _ rfl
      have q1 := hc 1 _ rfl
      have q2 := hc 2 _ rfl
      have q3 := hc 3 _ rfl
      have q4 := hc 4 _ rfl
      have q5 := hc 5 _ rfl
      have q6 := hc 6 _ rfl
      have q7 := hc 7 _ rfl
      have q8 := hc 8 _ rfl
      have q9 := hc 9 _ rfl
      have hmem : d ∈ l := List.mem_of_getElem? hk
      have hC := copied_any d v1 ⟨hda d hmem, hok'.out d hmem⟩
      unfold devV at hC
      have ik : (k : Int) < (l.length : Int) := by omega
      have ik0 : (0 : Int) ≤ (k : Int) := by omega
      have ik1 : ¬ (k : Int) < 0 := by omega
      have hC' := Lib.hid hC; clear hC hc hcells hda hi
      have hk' := Lib.hid hk; clear hk
      have hno' := Lib.hid hno; clear hno
      have hd' := Lib.hid hd; clear hd
      obtain ⟨x0, x1, x2, x3, x4, x5, x6, x7, x8, xa, xn, xc, xt⟩ := d
      simp only [Dev.atv] at q0 q1 q2 q3 q4 q5 q6 q7 q8 q9 hC'
      obtain ⟨N, hN⟩ : ∃ N, l.length = N := ⟨_, rfl⟩
      rw [hN] at ik hlen hkl c0 hX1 hl' ⊢
      go_wp2_with fail
      refine hC'.out.mono ?_
      rintro e v3 ⟨⟨d', rfl, hd2, hsame, hlow⟩, hb3⟩
      have hY3 : Hid (Blk v3 (w.heap.size + 1) 40 #[.int .i64 0, .int .i64 0, .string ⟨#[]⟩, .string ⟨#[]⟩, .string ⟨#[]⟩, .string ⟨#[]⟩, .string ⟨#[]⟩, .int .i64 0, .int .i64 0, .slice none 0 0]) := hY1.out.below hb3 hY1.out.lt
      have hlt3 := hY1.out.lt
      have hB3 : Hid (Below w.heap.size w (v3.setRow (w.heap.size + 1) #[.int .i64 d'.idx, .int .i64 d'.par, .string d'.name, .string d'.orig, .string d'.sub, .string d'.drv, .string d'.ali, .int .i64 d'.kind, .int .i64 d'.num, .slice d'.aa d'.an d'.ac])) := below_row (hb2.out.trans (hb3.mono hb2.out.size)) (Nat.le_succ _) _
      have hD3 : Hid (DevOk (v3.setRow (w.heap.size + 1) #[.int .i64 d'.idx, .int .i64 d'.par, .string d'.name, .string d'.orig, .string d'.sub, .string d'.drv, .string d'.ali, .int .i64 d'.kind, .int .i64 d'.num, .slice d'.aa d'.an d'.ac]) d') := hd2.same (below_row (Below.refl 0 v3) (Nat.zero_le _) _).size fun x hx => setRow_other _ _ _ _ (by have := hlow x hx; omega)
      have hZ3 : Hid (Blk (v3.setRow (w.heap.size + 1) #[.int .i64 d'.idx, .int .i64 d'.par, .string d'.name, .string d'.orig, .string d'.sub, .string d'.drv, .string d'.ali, .int .i64 d'.kind, .int .i64 d'.num, .slice d'.aa d'.an d'.ac]) (w.heap.size + 1) 40 #[.int .i64 d'.idx, .int .i64 d'.par, .string d'.name, .string d'.orig, .string d'.sub, .string d'.drv, .string d'.ali, .int .i64 d'.kind, .int .i64 d'.num, .slice d'.aa d'.an d'.ac]) := hY3.out.row _
      have hsame' := Lib.hid hsame
      have hlow' : Hid (∀ x, d'.aa = some x → w.heap.size ≤ x.block) := fun x hx => by have := hlow x hx; omega
      have hone : (#[.int .i64 d'.idx, .int .i64 d'.par, .string d'.name, .string d'.orig, .string d'.sub, .string d'.drv, .string d'.ali, .int .i64 d'.kind, .int .i64 d'.num, .slice d'.aa d'.an d'.ac] : Array Value).all (·.oneCell') = true := by simp [Value.oneCell']
      clear hb3 hd2 hsame hlow hC' q0 q1 q2 q3 q4 q5 q6 q7 q8 q9 c0
      go_wp2_with (refine wpList_store_row rfl 40 (.tmp 4) (.tmp 19) rfl (w.heap.size + 1) #[.int .i64 d'.idx, .int .i64 d'.par, .string d'.name, .string d'.orig, .string d'.sub, .string d'.drv, .string d'.ali, .int .i64 d'.kind, .int .i64 d'.num, .slice d'.aa d'.an d'.ac] rfl rfl 40 #[.int .i64 0, .int .i64 0, .string ⟨#[]⟩, .string ⟨#[]⟩, .string ⟨#[]⟩, .string ⟨#[]⟩, .string ⟨#[]⟩, .int .i64 0, .int .i64 0, .slice none 0 0] hY3.out (sizeDev _ rfl) rfl hone ?_)
      exact bodyPost_ret (results_row_tmp rfl _ _ (w.heap.size + 1) 40 _ _ rfl hZ3.out Tryz.underlying40 rfl (sizeDev _ rfl)) rfl ⟨.inr ⟨k, _, d', hk'.out, hd'.out, hno'.out, hsame'.out, hD3.out, hlow'.out, rfl⟩, hB3.out⟩

set_option maxRecDepth 100000 in
set_option maxHeartbeats 2000000 in
theorem find_any (l : List Dev) (p : Option Addr) (n c : Nat) (i : Int) (w : World) (hl : DevsAt w (.slice p n c) l) (hok : ∀ d ∈ l, Neat d.att d.aa d.an d.ac) :
    Calls Tryz.prog 11 #[.agg #[.slice p n c], .int .i64 i] w fun e w' => FindPost w.heap.size l i e w' ∧ Below w.heap.size w w' := by
  have hb1 : Below w.heap.size w (w.alloc (.cells #[.slice p n c] 30)) := (Below.refl _ _).alloc (Nat.le_refl _) _
  have hb2 : Below w.heap.size w ((w.alloc (.cells #[.slice p n c] 30)).alloc (.cells #[.int .i64 i] 3)) := hb1.alloc hb1.size _
  have hbb : Below w.heap.size w (((w.alloc (.cells #[.slice p n c] 30)).alloc (.cells #[.int .i64 i] 3)).alloc (.cells #[.int .i64 0, .int .i64 0, .string ⟨#[]⟩, .string ⟨#[]⟩, .string ⟨#[]⟩, .string ⟨#[]⟩, .string ⟨#[]⟩, .int .i64 0, .int .i64 0, .slice none 0 0] 40)) := hb2.alloc hb2.size _
  have hI : Blk ((w.alloc (.cells #[.slice p n c] 30)).alloc (.cells #[.int .i64 i] 3)) (w.heap.size + 1) 3 #[.int .i64 i] := Blk.new_ _ _ _ (by simp)
  have hI2 : Blk (((w.alloc (.cells #[.slice p n c] 30)).alloc (.cells #[.int .i64 i] 3)).alloc (.cells #[.int .i64 0, .int .i64 0, .string ⟨#[]⟩, .string ⟨#[]⟩, .string ⟨#[]⟩, .string ⟨#[]⟩, .string ⟨#[]⟩, .int .i64 0, .int .i64 0, .slice none 0 0] 40)) (w.heap.size + 1) 3 #[.int .i64 i] := hI.alloc _
  have hY : Hid (Blk (((w.alloc (.cells #[.slice p n c] 30)).alloc (.cells #[.int .i64 i] 3)).alloc (.cells #[.int .i64 0, .int .i64 0, .string ⟨#[]⟩, .string ⟨#[]⟩, .string ⟨#[]⟩, .string ⟨#[]⟩, .string ⟨#[]⟩, .int .i64 0, .int .i64 0, .slice none 0 0] 40)) (w.heap.size + 2) 40 #[.int .i64 0, .int .i64 0, .string ⟨#[]⟩, .string ⟨#[]⟩, .string ⟨#[]⟩, .string ⟨#[]⟩, .string ⟨#[]⟩, .int .i64 0, .int .i64 0, .slice none 0 0]) := Blk.new_ _ _ _ (by simp)
  have hF := Lib.hid (first_any l p n c i (w.heap.size + 1) _ (hl.below hbb) hok ((hI2.cell 0).trans rfl))
  have hb' := Lib.hid hbb; clear hbb hb1 hb2 hI hI2 hl hok
  go_enter Tryz.func11, Tryz.ntmps11
  go_wp2_with fail
  generalize ((w.alloc (.cells #[.slice p n c] 30)).alloc (.cells #[.int .i64 i] 3)).alloc (.cells #[.int .i64 0, .int .i64 0, .string ⟨#[]⟩, .string ⟨#[]⟩, .string ⟨#[]⟩, .string ⟨#[]⟩, .string ⟨#[]⟩, .int .i64 0, .int .i64 0, .slice none 0 0] 40) = w2 at *
  refine hF.out.mono ?_
  rintro e v1 ⟨hp, hb1⟩
  have hY1 : Hid (Blk v1 (w.heap.size + 2) 40 #[.int .i64 0, .int .i64 0, .string ⟨#[]⟩, .string ⟨#[]⟩, .string ⟨#[]⟩, .string ⟨#[]⟩, .string ⟨#[]⟩, .int .i64 0, .int .i64 0, .slice none 0 0]) := hY.out.below hb1 hY.out.lt
  have hb2 : Hid (Below w.heap.size w v1) := hb'.out.trans (hb1.mono hb'.out.size)
  have hlt := hY.out.lt
  rcases hp with ⟨hno, rfl⟩ | ⟨k, d, d', hk, hd, hno, hsame, hok, hlow, rfl⟩
  · have hno' := Lib.hid hno; clear hno
    have hone : (#[.int .i64 0, .int .i64 0, .string ⟨#[]⟩, .string ⟨#[]⟩, .string ⟨#[]⟩, .string ⟨#[]⟩, .string ⟨#[]⟩, .int .i64 0, .int .i64 0, .slice none 0 0] : Array Value).all (·.oneCell') = true := by simp [Value.oneCell']
    unfold zeroDev
    go_wp2_with (refine wpList_store_row rfl 40 (.tmp 4) (.tmp 9) rfl (w.heap.size + 2) #[.int .i64 0, .int .i64 0, .string ⟨#[]⟩, .string ⟨#[]⟩, .string ⟨#[]⟩, .string ⟨#[]⟩, .string ⟨#[]⟩, .int .i64 0, .int .i64 0, .slice none 0 0] rfl rfl 40 #[.int .i64 0, .int .i64 0, .string ⟨#[]⟩, .string ⟨#[]⟩, .string ⟨#[]⟩, .string ⟨#[]⟩, .string ⟨#[]⟩, .int .i64 0, .int .i64 0, .slice none 0 0] hY1.out (sizeDev _ rfl) rfl hone ?_)
    exact bodyPost_ret (results_row_tmp rfl _ _ (w.heap.size + 2) 40 _ _ rfl (hY1.out.row _) Tryz.underlying40 rfl (sizeDev _ rfl)) rfl ⟨.inl ⟨hno'.out, rfl⟩, below_row hb2.out (by omega) _⟩
  · have hB3 : Hid (Below w.heap.size w (v1.setRow (w.heap.size + 2) #[.int .i64 d'.idx, .int .i64 d'.par, .string d'.name, .string d'.orig, .string d'.sub, .string d'.drv, .string d'.ali, .int .i64 d'.kind, .int .i64 d'.num, .slice d'.aa d'.an d'.ac])) := below_row hb2.out (by omega) _
    have hD3 : Hid (DevOk (v1.setRow (w.heap.size + 2) #[.int .i64 d'.idx, .int .i64 d'.par, .string d'.name, .string d'.orig, .string d'.sub, .string d'.drv, .string d'.ali, .int .i64 d'.kind, .int .i64 d'.num, .slice d'.aa d'.an d'.ac]) d') := hok.same (below_row (Below.refl 0 v1) (Nat.zero_le _) _).size fun x hx => setRow_other _ _ _ _ (by have := hlow x hx; omega)
    have hZ3 : Hid (Blk (v1.setRow (w.heap.size + 2) #[.int .i64 d'.idx, .int .i64 d'.par, .string d'.name, .string d'.orig, .string d'.sub, .string d'.drv, .string d'.ali, .int .i64 d'.kind, .int .i64 d'.num, .slice d'.aa d'.an d'.ac]) (w.heap.size + 2) 40 #[.int .i64 d'.idx, .int .i64 d'.par, .string d'.name, .string d'.orig, .string d'.sub, .string d'.drv, .string d'.ali, .int .i64 d'.kind, .int .i64 d'.num, .slice d'.aa d'.an d'.ac]) := hY1.out.row _
    have hlow' : Hid (∀ x, d'.aa = some x → w.heap.size ≤ x.block) := fun x hx => by have := hlow x hx; omega
    have hk' := Lib.hid hk
    have hd' := Lib.hid hd
    have hno' := Lib.hid hno
    have hsame' := Lib.hid hsame
    have hone : (#[.int .i64 d'.idx, .int .i64 d'.par, .string d'.name, .string d'.orig, .string d'.sub, .string d'.drv, .string d'.ali, .int .i64 d'.kind, .int .i64 d'.num, .slice d'.aa d'.an d'.ac] : Array Value).all (·.oneCell') = true := by simp [Value.oneCell']
    clear hok hlow hk hd hno hsame hF hb' hb1 hY
    unfold devV
    go_wp2_with (refine wpList_store_row rfl 40 (.tmp 4) (.tmp 9) rfl (w.heap.size + 2) #[.int .i64 d'.idx, .int .i64 d'.par, .string d'.name, .string d'.orig, .string d'.sub, .string d'.drv, .string d'.ali, .int .i64 d'.kind, .int .i64 d'.num, .slice d'.aa d'.an d'.ac] rfl rfl 40 #[.int .i64 0, .int .i64 0, .string ⟨#[]⟩, .string ⟨#[]⟩, .string ⟨#[]⟩, .string ⟨#[]⟩, .string ⟨#[]⟩, .int .i64 0, .int .i64 0, .slice none 0 0] hY1.out (sizeDev _ rfl) rfl hone ?_)
    exact bodyPost_ret (results_row_tmp rfl _ _ (w.heap.size + 2) 40 _ _ rfl hZ3.out Tryz.underlying40 rfl (sizeDev _ rfl)) rfl ⟨.inr ⟨k, d, d', hk'.out, hd'.out, hno'.out, hsame'.out, hD3.out, hlow'.out, rfl⟩, hB3.out⟩

end Go.Proofs.YtinjeijjfkkhbaaGreatDoor
