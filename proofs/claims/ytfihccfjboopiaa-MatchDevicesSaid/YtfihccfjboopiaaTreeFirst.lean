/-
  THE WALKS of tree.first and tree.Find.
-/
import Derived.Test.YtfihccfjboopiaaTreeCopy
namespace Go.Proofs.Ytfihccfjboopiaa
open Go.RowKit

def zeroDev : Value := .agg #[.int .i64 0, .int .i64 0, .string ⟨#[]⟩, .string ⟨#[]⟩, .string ⟨#[]⟩, .string ⟨#[]⟩, .string ⟨#[]⟩, .int .i64 0, .int .i64 0, .slice none 0 0]
theorem idxD_cases (l : List Dev) (i : Int) : (idxD l i = -1 ∧ ∀ x ∈ l, x.idx ≠ i) ∨ ∃ (k : Nat) (d : Dev), idxD l i = k ∧ l[k]? = some d ∧ d.idx = i ∧ ∀ j x, j < k → l[j]? = some x → x.idx ≠ i := by
  unfold idxD
  cases h : l.findIdx? (fun d => decide (d.idx = i)) with
  | none =>
    refine .inl ⟨rfl, fun x hx e => ?_⟩
    have := List.findIdx?_eq_none_iff.1 h x hx
    simp [e] at this
  | some k =>
    obtain ⟨hlt, h1, h2⟩ := List.findIdx?_eq_some_iff_getElem.1 h
    refine .inr ⟨k, l[k], rfl, List.getElem?_eq_getElem hlt, by simpa using h1, fun j x hj hx => ?_⟩
    have := h2 j hj
    have hjl : j < l.length := by omega
    rw [List.getElem?_eq_getElem hjl] at hx
    cases hx
    simpa using this
/-- What tree.first and tree.Find hand back. -/
def FindPost (B : Nat) (l : List Dev) (i : Int) (e : Ending) (w' : World) : Prop :=
  ((∀ x ∈ l, x.idx ≠ i) ∧ e = .returned (.tuple #[zeroDev, .bool false])) ∨
  ∃ (k : Nat) (d d' : Dev), l[k]? = some d ∧ d.idx = i ∧ (∀ j x, j < k → l[j]? = some x → x.idx ≠ i) ∧ sameD d d' ∧ DevOk w' d' ∧ (∀ x, d'.aa = some x → B ≤ x.block) ∧ e = .returned (.tuple #[devV d', .bool true])
theorem DevOk.below {w w' : World} {d : Dev} (h : DevOk w d) (hb : Below w.heap.size w w') : DevOk w' d := ⟨h.1.below hb, h.2⟩
theorem DevOk.same {w w' : World} {d : Dev} (h : DevOk w d) (hs : w.heap.size ≤ w'.heap.size) (hb : ∀ x, d.aa = some x → w'.heap[x.block]? = w.heap[x.block]?) : DevOk w' d :=
  ⟨RowAt.same h.1 hs fun g o n c e => by
    have e : Value.slice d.aa d.an d.ac = .slice (some ⟨g, o, none⟩) n c := e
    injection e with e1 _ _
    exact hb _ e1, h.2⟩

set_option maxRecDepth 100000 in
set_option maxHeartbeats 2000000 in
theorem first_any (l : List Dev) (p : Option Addr) (n c : Nat) (i : Int) (cb : Nat) (w : World) (hl : DevsAt w (.slice p n c) l) (hok : ∀ d ∈ l, Neat d.att d.aa d.an d.ac) (hcb : w.cell? ⟨cb, 0, none⟩ = some (.int .i64 i)) :
    Calls Try.prog 72 #[.agg #[.slice p n c], .func (Fn.func 73) #[] #[.pointer (some ⟨cb, 0, none⟩)]] w fun e w' => FindPost w.heap.size l i e w' ∧ Below w.heap.size w w' := by
  have hlt : cb < w.heap.size := World.block_lt_of_cell? w _ hcb
  have hbb : Below w.heap.size w ((w.alloc (.cells #[.slice p n c] 47)).alloc (.cells #[.int .i64 0, .int .i64 0, .string ⟨#[]⟩, .string ⟨#[]⟩, .string ⟨#[]⟩, .string ⟨#[]⟩, .string ⟨#[]⟩, .int .i64 0, .int .i64 0, .slice none 0 0] 42)) := ((Below.refl _ _).alloc (Nat.le_refl _) _).alloc (by simp) _
  have hI := Lib.hid (indexD_any l (.slice p n c) i cb _ (hl.below hbb) ((World.cell?_of_block (hbb.block cb hlt)).trans hcb))
  have hX : Hid (Blk ((w.alloc (.cells #[.slice p n c] 47)).alloc (.cells #[.int .i64 0, .int .i64 0, .string ⟨#[]⟩, .string ⟨#[]⟩, .string ⟨#[]⟩, .string ⟨#[]⟩, .string ⟨#[]⟩, .int .i64 0, .int .i64 0, .slice none 0 0] 42)) w.heap.size 47 #[.slice p n c]) := (Blk.new _ _ _).alloc _
  have hY : Hid (Blk ((w.alloc (.cells #[.slice p n c] 47)).alloc (.cells #[.int .i64 0, .int .i64 0, .string ⟨#[]⟩, .string ⟨#[]⟩, .string ⟨#[]⟩, .string ⟨#[]⟩, .string ⟨#[]⟩, .int .i64 0, .int .i64 0, .slice none 0 0] 42)) (w.heap.size + 1) 42 #[.int .i64 0, .int .i64 0, .string ⟨#[]⟩, .string ⟨#[]⟩, .string ⟨#[]⟩, .string ⟨#[]⟩, .string ⟨#[]⟩, .int .i64 0, .int .i64 0, .slice none 0 0]) := Blk.new_ _ _ _ (by simp)
  have hl' := Lib.hid hl
  have hok' := Lib.hid hok
  have hb' := Lib.hid hbb; clear hbb hl hok hcb
  go_enter Try.func72, Try.ntmps72
  go_wp2_with fail
  generalize (w.alloc (.cells #[.slice p n c] 47)).alloc (.cells #[.int .i64 0, .int .i64 0, .string ⟨#[]⟩, .string ⟨#[]⟩, .string ⟨#[]⟩, .string ⟨#[]⟩, .string ⟨#[]⟩, .int .i64 0, .int .i64 0, .slice none 0 0] 42) = w2 at *
  refine hI.out.mono ?_
  rintro e v1 ⟨rfl, hb1⟩
  have hX1 : Hid (Blk v1 w.heap.size 47 #[.slice p n c]) := hX.out.below hb1 hX.out.lt
  have hY1 : Hid (Blk v1 (w.heap.size + 1) 42 #[.int .i64 0, .int .i64 0, .string ⟨#[]⟩, .string ⟨#[]⟩, .string ⟨#[]⟩, .string ⟨#[]⟩, .string ⟨#[]⟩, .int .i64 0, .int .i64 0, .slice none 0 0]) := hY.out.below hb1 hY.out.lt
  have hb2 : Hid (Below w.heap.size w v1) := hb'.out.trans (hb1.mono hb'.out.size)
  clear hX hY hb' hb1 hI
  have c0 := hX1.out.cell 0
  simp only [List.getElem?_toArray, List.getElem?_cons_zero] at c0
  rcases idxD_cases l i with ⟨hi, hno⟩ | ⟨k, d, hi, hk, hd, hno⟩
  · rw [hi]
    have hno' := Lib.hid hno; clear hno hi
    have hone : (#[.int .i64 0, .int .i64 0, .string ⟨#[]⟩, .string ⟨#[]⟩, .string ⟨#[]⟩, .string ⟨#[]⟩, .string ⟨#[]⟩, .int .i64 0, .int .i64 0, .slice none 0 0] : Array Value).all (·.oneCell') = true := by simp [Value.oneCell']
    go_wp2_with (refine wpList_store_row rfl 42 (.tmp 4) (.tmp 13) rfl (w.heap.size + 1) #[.int .i64 0, .int .i64 0, .string ⟨#[]⟩, .string ⟨#[]⟩, .string ⟨#[]⟩, .string ⟨#[]⟩, .string ⟨#[]⟩, .int .i64 0, .int .i64 0, .slice none 0 0] rfl rfl 42 #[.int .i64 0, .int .i64 0, .string ⟨#[]⟩, .string ⟨#[]⟩, .string ⟨#[]⟩, .string ⟨#[]⟩, .string ⟨#[]⟩, .int .i64 0, .int .i64 0, .slice none 0 0] hY1.out (sizeDev _ rfl) rfl hone ?_)
    exact bodyPost_ret (results_row_tmp rfl _ _ (w.heap.size + 1) 42 _ _ rfl (hY1.out.row _) Try.underlying42 rfl (sizeDev _ rfl)) rfl ⟨.inl ⟨hno'.out, rfl⟩, below_row hb2.out (Nat.le_succ _) _⟩
  · rw [hi]
    have hdl := hl'.out.below hb2.out
    obtain ⟨⟨hlen, hl2⟩, hda⟩ := hdl
    rcases hl2 with ⟨_, h0⟩ | ⟨g, o, cap, hsl, hg, hcells⟩
    · have : l = [] := List.map_eq_nil_iff.1 h0
      subst this
      cases hk
    · rw [List.length_map] at hsl hlen
      injection hsl with e1 e2 e3
      subst e1 e2 e3
      have hkl : k < l.length := (List.getElem?_eq_some_iff.1 hk).1
      have hc := hcells k (devC d) (by rw [List.getElem?_map, hk]; rfl)
      have q0 : v1.cell? ⟨g, o + k * 10, none⟩ = some (.int .i64 d.idx) := hc 0 _ rfl
      have q1 := hc 1 _ rfl
      have q2 := hc 2 _ rfl
      have q3 := hc 3 _ rfl
      have q4 := hc 4 _ rfl
      have q5 := hc 5 _ rfl
      have q6 := hc 6 _ rfl
      have q7 := hc 7 _ rfl
      have q8 := hc 8 _ rfl
      have q9 := hc 9 _ rfl
      have hmem : d ∈ l := List.mem_of_getElem? hk
      have hC := copied_any d v1 ⟨hda d hmem, hok'.out d hmem⟩
      unfold devV at hC
      have ik : (k : Int) < (l.length : Int) := by omega
      have ik0 : (0 : Int) ≤ (k : Int) := by omega
      have ik1 : ¬ (k : Int) < 0 := by omega
      have hC' := Lib.hid hC; clear hC hc hcells hda hi
      have hk' := Lib.hid hk; clear hk
      have hno' := Lib.hid hno; clear hno
      have hd' := Lib.hid hd; clear hd
      obtain ⟨x0, x1, x2, x3, x4, x5, x6, x7, x8, xa, xn, xc, xt⟩ := d
      simp only [Dev.atv] at q0 q1 q2 q3 q4 q5 q6 q7 q8 q9 hC'
      obtain ⟨N, hN⟩ : ∃ N, l.length = N := ⟨_, rfl⟩
      rw [hN] at ik hlen hkl c0 hX1 hl' ⊢
      go_wp2_with fail
      refine hC'.out.mono ?_
      rintro e v3 ⟨⟨d', rfl, hd2, hsame, hlow⟩, hb3⟩
      have hY3 : Hid (Blk v3 (w.heap.size + 1) 42 #[.int .i64 0, .int .i64 0, .string ⟨#[]⟩, .string ⟨#[]⟩, .string ⟨#[]⟩, .string ⟨#[]⟩, .string ⟨#[]⟩, .int .i64 0, .int .i64 0, .slice none 0 0]) := hY1.out.below hb3 hY1.out.lt
      have hlt3 := hY1.out.lt
      have hB3 : Hid (Below w.heap.size w (v3.setRow (w.heap.size + 1) #[.int .i64 d'.idx, .int .i64 d'.par, .string d'.name, .string d'.orig, .string d'.sub, .string d'.drv, .string d'.ali, .int .i64 d'.kind, .int .i64 d'.num, .slice d'.aa d'.an d'.ac])) := below_row (hb2.out.trans (hb3.mono hb2.out.size)) (Nat.le_succ _) _
      have hD3 : Hid (DevOk (v3.setRow (w.heap.size + 1) #[.int .i64 d'.idx, .int .i64 d'.par, .string d'.name, .string d'.orig, .string d'.sub, .string d'.drv, .string d'.ali, .int .i64 d'.kind, .int .i64 d'.num, .slice d'.aa d'.an d'.ac]) d') := hd2.same (below_row (Below.refl 0 v3) (Nat.zero_le _) _).size fun x hx => setRow_other _ _ _ _ (by have := hlow x hx; omega)
      have hZ3 : Hid (Blk (v3.setRow (w.heap.size + 1) #[.int .i64 d'.idx, .int .i64 d'.par, .string d'.name, .string d'.orig, .string d'.sub, .string d'.drv, .string d'.ali, .int .i64 d'.kind, .int .i64 d'.num, .slice d'.aa d'.an d'.ac]) (w.heap.size + 1) 42 #[.int .i64 d'.idx, .int .i64 d'.par, .string d'.name, .string d'.orig, .string d'.sub, .string d'.drv, .string d'.ali, .int .i64 d'.kind, .int .i64 d'.num, .slice d'.aa d'.an d'.ac]) := hY3.out.row _
      have hsame' := Lib.hid hsame
      have hlow' : Hid (∀ x, d'.aa = some x → w.heap.size ≤ x.block) := fun x hx => by have := hlow x hx; omega
      have hone : (#[.int .i64 d'.idx, .int .i64 d'.par, .string d'.name, .string d'.orig, .string d'.sub, .string d'.drv, .string d'.ali, .int .i64 d'.kind, .int .i64 d'.num, .slice d'.aa d'.an d'.ac] : Array Value).all (·.oneCell') = true := by simp [Value.oneCell']
      clear hb3 hd2 hsame hlow hC' q0 q1 q2 q3 q4 q5 q6 q7 q8 q9 c0
      go_wp2_with (refine wpList_store_row rfl 42 (.tmp 4) (.tmp 19) rfl (w.heap.size + 1) #[.int .i64 d'.idx, .int .i64 d'.par, .string d'.name, .string d'.orig, .string d'.sub, .string d'.drv, .string d'.ali, .int .i64 d'.kind, .int .i64 d'.num, .slice d'.aa d'.an d'.ac] rfl rfl 42 #[.int .i64 0, .int .i64 0, .string ⟨#[]⟩, .string ⟨#[]⟩, .string ⟨#[]⟩, .string ⟨#[]⟩, .string ⟨#[]⟩, .int .i64 0, .int .i64 0, .slice none 0 0] hY3.out (sizeDev _ rfl) rfl hone ?_)
      exact bodyPost_ret (results_row_tmp rfl _ _ (w.heap.size + 1) 42 _ _ rfl hZ3.out Try.underlying42 rfl (sizeDev _ rfl)) rfl ⟨.inr ⟨k, _, d', hk'.out, hd'.out, hno'.out, hsame'.out, hD3.out, hlow'.out, rfl⟩, hB3.out⟩

set_option maxRecDepth 100000 in
set_option maxHeartbeats 2000000 in
theorem find_any (l : List Dev) (p : Option Addr) (n c : Nat) (i : Int) (w : World) (hl : DevsAt w (.slice p n c) l) (hok : ∀ d ∈ l, Neat d.att d.aa d.an d.ac) :
    Calls Try.prog 55 #[.agg #[.slice p n c], .int .i64 i] w fun e w' => FindPost w.heap.size l i e w' ∧ Below w.heap.size w w' := by
  have hb1 : Below w.heap.size w (w.alloc (.cells #[.slice p n c] 47)) := (Below.refl _ _).alloc (Nat.le_refl _) _
  have hb2 : Below w.heap.size w ((w.alloc (.cells #[.slice p n c] 47)).alloc (.cells #[.int .i64 i] 3)) := hb1.alloc hb1.size _
  have hbb : Below w.heap.size w (((w.alloc (.cells #[.slice p n c] 47)).alloc (.cells #[.int .i64 i] 3)).alloc (.cells #[.int .i64 0, .int .i64 0, .string ⟨#[]⟩, .string ⟨#[]⟩, .string ⟨#[]⟩, .string ⟨#[]⟩, .string ⟨#[]⟩, .int .i64 0, .int .i64 0, .slice none 0 0] 42)) := hb2.alloc hb2.size _
  have hI : Blk ((w.alloc (.cells #[.slice p n c] 47)).alloc (.cells #[.int .i64 i] 3)) (w.heap.size + 1) 3 #[.int .i64 i] := Blk.new_ _ _ _ (by simp)
  have hI2 : Blk (((w.alloc (.cells #[.slice p n c] 47)).alloc (.cells #[.int .i64 i] 3)).alloc (.cells #[.int .i64 0, .int .i64 0, .string ⟨#[]⟩, .string ⟨#[]⟩, .string ⟨#[]⟩, .string ⟨#[]⟩, .string ⟨#[]⟩, .int .i64 0, .int .i64 0, .slice none 0 0] 42)) (w.heap.size + 1) 3 #[.int .i64 i] := hI.alloc _
  have hY : Hid (Blk (((w.alloc (.cells #[.slice p n c] 47)).alloc (.cells #[.int .i64 i] 3)).alloc (.cells #[.int .i64 0, .int .i64 0, .string ⟨#[]⟩, .string ⟨#[]⟩, .string ⟨#[]⟩, .string ⟨#[]⟩, .string ⟨#[]⟩, .int .i64 0, .int .i64 0, .slice none 0 0] 42)) (w.heap.size + 2) 42 #[.int .i64 0, .int .i64 0, .string ⟨#[]⟩, .string ⟨#[]⟩, .string ⟨#[]⟩, .string ⟨#[]⟩, .string ⟨#[]⟩, .int .i64 0, .int .i64 0, .slice none 0 0]) := Blk.new_ _ _ _ (by simp)
  have hF := Lib.hid (first_any l p n c i (w.heap.size + 1) _ (hl.below hbb) hok ((hI2.cell 0).trans rfl))
  have hb' := Lib.hid hbb; clear hbb hb1 hb2 hI hI2 hl hok
  go_enter Try.func55, Try.ntmps55
  go_wp2_with fail
  generalize ((w.alloc (.cells #[.slice p n c] 47)).alloc (.cells #[.int .i64 i] 3)).alloc (.cells #[.int .i64 0, .int .i64 0, .string ⟨#[]⟩, .string ⟨#[]⟩, .string ⟨#[]⟩, .string ⟨#[]⟩, .string ⟨#[]⟩, .int .i64 0, .int .i64 0, .slice none 0 0] 42) = w2 at *
  refine hF.out.mono ?_
  rintro e v1 ⟨hp, hb1⟩
  have hY1 : Hid (Blk v1 (w.heap.size + 2) 42 #[.int .i64 0, .int .i64 0, .string ⟨#[]⟩, .string ⟨#[]⟩, .string ⟨#[]⟩, .string ⟨#[]⟩, .string ⟨#[]⟩, .int .i64 0, .int .i64 0, .slice none 0 0]) := hY.out.below hb1 hY.out.lt
  have hb2 : Hid (Below w.heap.size w v1) := hb'.out.trans (hb1.mono hb'.out.size)
  have hlt := hY.out.lt
  rcases hp with ⟨hno, rfl⟩ | ⟨k, d, d', hk, hd, hno, hsame, hok, hlow, rfl⟩
  · have hno' := Lib.hid hno; clear hno
    have hone : (#[.int .i64 0, .int .i64 0, .string ⟨#[]⟩, .string ⟨#[]⟩, .string ⟨#[]⟩, .string ⟨#[]⟩, .string ⟨#[]⟩, .int .i64 0, .int .i64 0, .slice none 0 0] : Array Value).all (·.oneCell') = true := by simp [Value.oneCell']
    unfold zeroDev
    go_wp2_with (refine wpList_store_row rfl 42 (.tmp 4) (.tmp 9) rfl (w.heap.size + 2) #[.int .i64 0, .int .i64 0, .string ⟨#[]⟩, .string ⟨#[]⟩, .string ⟨#[]⟩, .string ⟨#[]⟩, .string ⟨#[]⟩, .int .i64 0, .int .i64 0, .slice none 0 0] rfl rfl 42 #[.int .i64 0, .int .i64 0, .string ⟨#[]⟩, .string ⟨#[]⟩, .string ⟨#[]⟩, .string ⟨#[]⟩, .string ⟨#[]⟩, .int .i64 0, .int .i64 0, .slice none 0 0] hY1.out (sizeDev _ rfl) rfl hone ?_)
    exact bodyPost_ret (results_row_tmp rfl _ _ (w.heap.size + 2) 42 _ _ rfl (hY1.out.row _) Try.underlying42 rfl (sizeDev _ rfl)) rfl ⟨.inl ⟨hno'.out, rfl⟩, below_row hb2.out (by omega) _⟩
  · have hB3 : Hid (Below w.heap.size w (v1.setRow (w.heap.size + 2) #[.int .i64 d'.idx, .int .i64 d'.par, .string d'.name, .string d'.orig, .string d'.sub, .string d'.drv, .string d'.ali, .int .i64 d'.kind, .int .i64 d'.num, .slice d'.aa d'.an d'.ac])) := below_row hb2.out (by omega) _
    have hD3 : Hid (DevOk (v1.setRow (w.heap.size + 2) #[.int .i64 d'.idx, .int .i64 d'.par, .string d'.name, .string d'.orig, .string d'.sub, .string d'.drv, .string d'.ali, .int .i64 d'.kind, .int .i64 d'.num, .slice d'.aa d'.an d'.ac]) d') := hok.same (below_row (Below.refl 0 v1) (Nat.zero_le _) _).size fun x hx => setRow_other _ _ _ _ (by have := hlow x hx; omega)
    have hZ3 : Hid (Blk (v1.setRow (w.heap.size + 2) #[.int .i64 d'.idx, .int .i64 d'.par, .string d'.name, .string d'.orig, .string d'.sub, .string d'.drv, .string d'.ali, .int .i64 d'.kind, .int .i64 d'.num, .slice d'.aa d'.an d'.ac]) (w.heap.size + 2) 42 #[.int .i64 d'.idx, .int .i64 d'.par, .string d'.name, .string d'.orig, .string d'.sub, .string d'.drv, .string d'.ali, .int .i64 d'.kind, .int .i64 d'.num, .slice d'.aa d'.an d'.ac]) := hY1.out.row _
    have hlow' : Hid (∀ x, d'.aa = some x → w.heap.size ≤ x.block) := fun x hx => by have := hlow x hx; omega
    have hk' := Lib.hid hk
    have hd' := Lib.hid hd
    have hno' := Lib.hid hno
    have hsame' := Lib.hid hsame
    have hone : (#[.int .i64 d'.idx, .int .i64 d'.par, .string d'.name, .string d'.orig, .string d'.sub, .string d'.drv, .string d'.ali, .int .i64 d'.kind, .int .i64 d'.num, .slice d'.aa d'.an d'.ac] : Array Value).all (·.oneCell') = true := by simp [Value.oneCell']
    clear hok hlow hk hd hno hsame hF hb' hb1 hY
    unfold devV
    go_wp2_with (refine wpList_store_row rfl 42 (.tmp 4) (.tmp 9) rfl (w.heap.size + 2) #[.int .i64 d'.idx, .int .i64 d'.par, .string d'.name, .string d'.orig, .string d'.sub, .string d'.drv, .string d'.ali, .int .i64 d'.kind, .int .i64 d'.num, .slice d'.aa d'.an d'.ac] rfl rfl 42 #[.int .i64 0, .int .i64 0, .string ⟨#[]⟩, .string ⟨#[]⟩, .string ⟨#[]⟩, .string ⟨#[]⟩, .string ⟨#[]⟩, .int .i64 0, .int .i64 0, .slice none 0 0] hY1.out (sizeDev _ rfl) rfl hone ?_)
    exact bodyPost_ret (results_row_tmp rfl _ _ (w.heap.size + 2) 42 _ _ rfl hZ3.out Try.underlying42 rfl (sizeDev _ rfl)) rfl ⟨.inr ⟨k, d, d', hk'.out, hd'.out, hno'.out, hsame'.out, hD3.out, hlow'.out, rfl⟩, hB3.out⟩

end Go.Proofs.Ytfihccfjboopiaa
