/-
  THE WALKS of coldplugref04.Find, Chain, Origin; rows of devices of the call's own.
-/
import Derived.Test.YtinjeijjfkkhbaaGreatDoorZNode
import Derived.Test.YtinjeijjfkkhbaaGreatDoorTreeAncR
import Derived.Test.YtinjeijjfkkhbaaGreatDoorRefApp
namespace Go.Proofs.YtinjeijjfkkhbaaGreatDoor
open Go Go.RowKit

/-! ROWS OF DEVICES. -/
def flatV (l : List Dev) : List Value := (l.map devC).flatten
theorem devs_ten (l : List Dev) : ∀ x ∈ l.map devC, x.length = 10 := fun x hx => by
  obtain ⟨y, _, rfl⟩ := List.mem_map.1 hx
  rfl
theorem flatV_app (l m : List Dev) : flatV (l ++ m) = flatV l ++ flatV m := by simp [flatV]
theorem flatV_len (l : List Dev) : (flatV l).length = l.length * 10 := by
  have := rows_length (l.map devC) (devs_ten l)
  rw [List.length_map] at this
  exact this
theorem flatV_one (l : List Dev) : ∀ u ∈ flatV l, u.oneCell' = true := fun u hu => by
  obtain ⟨x, hx, hu⟩ := List.mem_flatten.1 hu
  obtain ⟨y, _, rfl⟩ := List.mem_map.1 hx
  simp [devC, Dev.atv] at hu
  rcases hu with rfl | rfl | rfl | rfl | rfl | rfl | rfl | rfl | rfl | rfl <;> rfl
def OwnV (w : World) (B : Nat) (p : Option Addr) (n c : Nat) (l : List Dev) : Prop := l.length = n ∧ w.ownsRow B 40 10 (.slice p n c) n (flatV l)
theorem ownV_none (w : World) (B : Nat) : OwnV w B none 0 0 [] := ⟨rfl, rfl, .inl ⟨rfl, rfl⟩⟩
theorem OwnV.alloc {w : World} {B : Nat} {p : Option Addr} {n c : Nat} {L : List Dev} (h : OwnV w B p n c L) (o : Obj) : OwnV (w.alloc o) B p n c L := ⟨h.1, World.ownsRow.alloc h.2 o⟩
theorem OwnV.row {w : World} {B : Nat} {p : Option Addr} {n c : Nat} {L : List Dev} (h : OwnV w B p n c L) (h9 : n ≤ 1000000000) : RowAt w (.slice p n c) 10 (L.map devC) :=
  RowAt.own (l := L.map devC) h.2 (by rw [List.length_map]; exact h.1) (devs_ten L) (by rw [List.length_map, h.1]; omega)
theorem OwnV.later {w w' : World} {B : Nat} {p : Option Addr} {n c : Nat} {L : List Dev} (h : OwnV w B p n c L) (hb : Below w.heap.size w w') : OwnV w' B p n c L :=
  ⟨h.1, own_only h.2 (Only.of_below (S := fun _ => False) hb fun k h1 h2 => by omega) (fun _ _ h => h)⟩
theorem belowV {B : Nat} {w0 w w' : World} {p : Option Addr} {n c : Nat} {L : List Dev} (hB : B ≤ w0.heap.size) (hb : Below B w0 w) (ho : OwnV w B p n c L) (h : Only (fun k => (Value.slice p n c).ownBlock = some k) w w') : Below B w0 w' :=
  ⟨h.os.trans hb.os, h.tape.trans hb.tape, h.output.trans hb.output, Nat.le_trans hb.size h.size, fun k hk => by
    have hl : k < w.heap.size := by have := hb.size; omega
    exact (h.block k hl fun e => by have := (World.ownsRow.lt ho.2 k e).1; omega).trans (hb.block k hk)⟩
theorem rowAt_news {w : World} {ad : Option Addr} {m c : Nat} {l : List Dev} (h : RowAt w (.slice ad m c) 10 (l.map devC)) : ∀ b, ad = some b → ∀ j u, (flatV l)[j]? = some u → w.cell? (b.add j) = some u := fun b hb j u hu => by
  subst hb
  rcases h.2 with ⟨h1, _⟩ | ⟨g, o, cap, h1, _⟩
  · cases h1
  · cases h1
    exact h.news (devs_ten l) j u hu
theorem rowAt_some {w : World} {ad : Option Addr} {m c : Nat} {l : List Dev} (h : RowAt w (.slice ad m c) 10 (l.map devC)) (h0 : 0 < m) : ad ≠ none := fun e => by
  subst e
  rcases h.2 with ⟨h1, _⟩ | ⟨g, o, cap, h1, _⟩
  · cases h1; omega
  · cases h1
section
variable {ops : Array Oper} {rest : List Oper} {o : Oper} {a : Act} {w : World} {Q : Exit → Act → World → Prop}
theorem wp_app_devs {K : Act → World → Prop} (s x : Operand) (B : Nat) (p : Option Addr) (n cp : Nat) (L : List Dev) (ad : Option Addr) (c : Nat) (l : List Dev)
    (ho : o.op = .call { callee := .builtin .append, args := #[s, x], argTypes := #[28, 28] })
    (hs : a.eval s = .slice p n cp) (hown : OwnV w B p n cp L) (hx : a.eval x = .slice ad l.length c) (hV : RowAt w (.slice ad l.length c) 10 (l.map devC))
    (N : Nat) (hN : n + l.length = N) (hn : N ≤ 1000000) (hbase : B ≤ w.heap.size)
    (h : ∀ p' cp' w', OwnV w' B p' N cp' (L ++ l) → Only (fun k => (Value.slice p n cp).ownBlock = some k) w w' → K (a.put o.dst (.slice p' N cp')) w') : o.wp Tryz.prog a w K Q := by
  subst hN
  obtain ⟨i, hi, hz, hsz, hby⟩ := info_parts info_dev
  refine wp_append_all s x 28 ho B 40 i (.agg #[.int .i64 0, .int .i64 0, .string ⟨#[]⟩, .string ⟨#[]⟩, .string ⟨#[]⟩, .string ⟨#[]⟩, .string ⟨#[]⟩, .int .i64 0, .int .i64 0, .slice none 0 0]) 10 136 Tryz.underlying28 hi hz hsz hby rfl (by decide) p n cp (flatV L) hs hown.2 ad l.length c (flatV l) hx (flatV_len l) (rowAt_news hV) (rowAt_some hV) (flatV_one l) (by simp only [maxLen]; omega) (by omega) hbase fun p' cp' w' h1 h2 => h p' cp' w' ⟨?_, ?_⟩ h2
  · rw [List.length_append, hown.1]
  · rw [flatV_app]; exact h1
theorem list_app_devs (hgd : o.guard = none) (s x : Operand) (B : Nat) (p : Option Addr) (n cp : Nat) (L : List Dev) (ad : Option Addr) (c : Nat) (l : List Dev)
    (ho : o.op = .call { callee := .builtin .append, args := #[s, x], argTypes := #[28, 28] })
    (hs : a.eval s = .slice p n cp) (hown : OwnV w B p n cp L) (hx : a.eval x = .slice ad l.length c) (hV : RowAt w (.slice ad l.length c) 10 (l.map devC))
    (N : Nat) (hN : n + l.length = N) (hn : N ≤ 1000000) (hbase : B ≤ w.heap.size)
    (h : ∀ p' cp' w', OwnV w' B p' N cp' (L ++ l) → Only (fun k => (Value.slice p n cp).ownBlock = some k) w w' → wpList Tryz.prog ops Q rest (a.put o.dst (.slice p' N cp')) w') : wpList Tryz.prog ops Q (o :: rest) a w :=
  wpList_plain hgd fun _ hK => wp_app_devs s x B p n cp L ad c l ho hs hown hx hV N hN hn hbase fun p' cp' w' h1 h2 => hK _ _ (h p' cp' w' h1 h2)
end
theorem blk_dev {w : World} {b : Nat} {d : Dev} (h : Blk w b 40 (devC d).toArray) : RowAt w (.slice (some ⟨b, 0, none⟩) [d].length 1) 10 ([d].map devC) := by
  refine ⟨by simp, .inr ⟨b, 0, 1, by simp, h.lt, fun k xs hx j u hu => ?_⟩⟩
  cases k with
  | zero =>
    simp at hx
    subst hx
    rw [show 0 + 0 * 10 + j = j by omega, h.cell j, ← hu]
    simp
  | succ k => simp at hx

/-! WHAT THEY ANSWER. -/
theorem refIdx_some {l : List Dev} {i : Int} (h : 0 ≤ refIdx l i) : ∃ (k : Nat) (d : Dev), refIdx l i = k ∧ l[k]? = some d ∧ d.idx = i := by
  unfold refIdx at h ⊢
  cases hf : l.findIdx? (fun d => d.idx == i) with
  | none => rw [hf] at h; simp at h
  | some k =>
    obtain ⟨hk, hd, _⟩ := List.findIdx?_eq_some_iff_getElem.1 hf
    exact ⟨k, l[k], rfl, List.getElem?_eq_getElem hk, by simpa using hd⟩
theorem refIdx_none {l : List Dev} {i : Int} (h : ¬ 0 ≤ refIdx l i) : ∀ d ∈ l, d.idx ≠ i := by
  unfold refIdx at h
  cases hf : l.findIdx? (fun d => d.idx == i) with
  | none =>
    intro d hd
    have := List.findIdx?_eq_none_iff.1 hf d hd
    simpa using this
  | some k => rw [hf] at h; simp at h
/-- The device that the reference finds. -/
def refFind (l : List Dev) (i : Int) : Option Dev := l.find? (fun d => d.idx == i)
theorem refIdx_find {l : List Dev} {i : Int} {k : Nat} {d : Dev} (h : refIdx l i = k) (hd : l[k]? = some d) : refFind l i = some d := by
  unfold refIdx at h
  unfold refFind
  cases hf : l.findIdx? (fun d => d.idx == i) with
  | none => rw [hf] at h; simp at h
  | some j =>
    rw [hf] at h
    have hjk : j = k := by
      have h2 : (j : Int) = k := by simpa using h
      omega
    subst hjk
    obtain ⟨hk, h1, h2⟩ := List.findIdx?_eq_some_iff_getElem.1 hf
    rw [List.getElem?_eq_getElem hk] at hd
    cases hd
    rw [List.find?_eq_some_iff_getElem]
    exact ⟨h1, j, hk, rfl, fun m hm => by simpa using h2 m hm⟩
theorem refIdx_nofind {l : List Dev} {i : Int} (h : ¬ 0 ≤ refIdx l i) : refFind l i = none := by
  unfold refFind
  rw [List.find?_eq_none]
  intro d hd
  have := refIdx_none h d hd
  simpa using this
def FindR (l : List Dev) (i : Int) (e : Ending) : Prop := (refFind l i = none ∧ e = .returned (.tuple #[zeroDev, .bool false])) ∨ ∃ d, refFind l i = some d ∧ d ∈ l ∧ e = .returned (.tuple #[devV d, .bool true])

set_option maxRecDepth 100000 in
set_option maxHeartbeats 2000000 in
theorem rfind_any (l : List Dev) (p : Option Addr) (n c : Nat) (i : Int) (w : World) (hl : DevsAt w (.slice p n c) l) (hn : n ≤ 1000000) :
    Calls Tryz.prog 50 #[.agg #[.slice p n c], .int .i64 i] w fun e w' => FindR l i e ∧ Below w.heap.size w w' := by
  have hb1 : Below w.heap.size w (w.alloc (.cells #[.slice p n c] 30)) := (Below.refl _ _).alloc (Nat.le_refl _) _
  have hbb : Below w.heap.size w ((w.alloc (.cells #[.slice p n c] 30)).alloc (.cells #[.int .i64 0, .int .i64 0, .string ⟨#[]⟩, .string ⟨#[]⟩, .string ⟨#[]⟩, .string ⟨#[]⟩, .string ⟨#[]⟩, .int .i64 0, .int .i64 0, .slice none 0 0] 40)) := hb1.alloc hb1.size _
  have hX : Hid (Blk ((w.alloc (.cells #[.slice p n c] 30)).alloc (.cells #[.int .i64 0, .int .i64 0, .string ⟨#[]⟩, .string ⟨#[]⟩, .string ⟨#[]⟩, .string ⟨#[]⟩, .string ⟨#[]⟩, .int .i64 0, .int .i64 0, .slice none 0 0] 40)) w.heap.size 30 #[.slice p n c]) := (Blk.new _ _ _).alloc _
  have hY : Hid (Blk ((w.alloc (.cells #[.slice p n c] 30)).alloc (.cells #[.int .i64 0, .int .i64 0, .string ⟨#[]⟩, .string ⟨#[]⟩, .string ⟨#[]⟩, .string ⟨#[]⟩, .string ⟨#[]⟩, .int .i64 0, .int .i64 0, .slice none 0 0] 40)) (w.heap.size + 1) 40 #[.int .i64 0, .int .i64 0, .string ⟨#[]⟩, .string ⟨#[]⟩, .string ⟨#[]⟩, .string ⟨#[]⟩, .string ⟨#[]⟩, .int .i64 0, .int .i64 0, .slice none 0 0]) := Blk.new_ _ _ _ (by simp)
  have hI := Lib.hid (zindex_any l p n c i _ (hl.below hbb) hn)
  have hb' := Lib.hid hbb; clear hbb hb1
  have hl' := Lib.hid hl; clear hl
  go_enter Tryz.func50, Tryz.ntmps50
  go_wp2_with fail
  generalize (w.alloc (.cells #[.slice p n c] 30)).alloc (.cells #[.int .i64 0, .int .i64 0, .string ⟨#[]⟩, .string ⟨#[]⟩, .string ⟨#[]⟩, .string ⟨#[]⟩, .string ⟨#[]⟩, .int .i64 0, .int .i64 0, .slice none 0 0] 40) = w2 at *
  refine hI.out.mono ?_
  rintro e v1 ⟨rfl, hb1⟩
  have hX1 := Lib.hid (hX.out.below hb1 hX.out.lt)
  have hY1 := Lib.hid (hY.out.below hb1 hY.out.lt)
  have hb2 := Lib.hid (hb'.out.trans (hb1.mono hb'.out.size))
  have hlt : w.heap.size ≤ w.heap.size + 1 := by omega
  clear hb1 hX hY hb' hI
  have x0 := hX1.out.cell 0
  simp only [List.getElem?_toArray, List.getElem?_cons_zero] at x0
  by_cases h0 : 0 ≤ refIdx l i
  · obtain ⟨k, d, hR, hd, -⟩ := refIdx_some h0
    have hfind : Hid (refFind l i = some d) := refIdx_find hR hd
    have hmem : Hid (d ∈ l) := List.mem_of_getElem? hd
    rw [hR]
    have hkn : k < n := by
      have := (List.getElem?_eq_some_iff.1 hd).1
      have := hl'.out.len
      omega
    have ik : (k : Int) < (n : Int) := by omega
    have ik0 : (0 : Int) ≤ (k : Int) := by omega
    obtain ⟨d', g, o, hd', rfl, hc⟩ := hl'.out.cell hb2.out hkn
    rw [hd] at hd'
    cases hd'
    have c0 := hc 0 _ rfl
    have c1 := hc 1 _ rfl
    have c2 := hc 2 _ rfl
    have c3 := hc 3 _ rfl
    have c4 := hc 4 _ rfl
    have c5 := hc 5 _ rfl
    have c6 := hc 6 _ rfl
    have c7 := hc 7 _ rfl
    have c8 := hc 8 _ rfl
    have c9 := hc 9 _ rfl
    rw [Nat.add_zero] at c0
    unfold Dev.atv at c9
    have hone : (#[.int .i64 d.idx, .int .i64 d.par, .string d.name, .string d.orig, .string d.sub, .string d.drv, .string d.ali, .int .i64 d.kind, .int .i64 d.num, .slice d.aa d.an d.ac] : Array Value).all (·.oneCell') = true := by simp [Value.oneCell']
    have hB3 : Hid (Below w.heap.size w (v1.setRow (w.heap.size + 1) #[.int .i64 d.idx, .int .i64 d.par, .string d.name, .string d.orig, .string d.sub, .string d.drv, .string d.ali, .int .i64 d.kind, .int .i64 d.num, .slice d.aa d.an d.ac])) := below_row hb2.out hlt _
    have hZ3 : Hid (Blk (v1.setRow (w.heap.size + 1) #[.int .i64 d.idx, .int .i64 d.par, .string d.name, .string d.orig, .string d.sub, .string d.drv, .string d.ali, .int .i64 d.kind, .int .i64 d.num, .slice d.aa d.an d.ac]) (w.heap.size + 1) 40 #[.int .i64 d.idx, .int .i64 d.par, .string d.name, .string d.orig, .string d.sub, .string d.drv, .string d.ali, .int .i64 d.kind, .int .i64 d.num, .slice d.aa d.an d.ac]) := hY1.out.row _
    clear hR h0 hd hc hl'
    go_wp2_with (refine wpList_store_row rfl 40 (.tmp 4) (.tmp 17) rfl (w.heap.size + 1) #[.int .i64 d.idx, .int .i64 d.par, .string d.name, .string d.orig, .string d.sub, .string d.drv, .string d.ali, .int .i64 d.kind, .int .i64 d.num, .slice d.aa d.an d.ac] rfl rfl 40 #[.int .i64 0, .int .i64 0, .string ⟨#[]⟩, .string ⟨#[]⟩, .string ⟨#[]⟩, .string ⟨#[]⟩, .string ⟨#[]⟩, .int .i64 0, .int .i64 0, .slice none 0 0] hY1.out (sizeDev _ rfl) rfl hone ?_)
    exact bodyPost_ret (results_row_tmp rfl _ _ (w.heap.size + 1) 40 _ _ rfl hZ3.out Tryz.underlying40 rfl (sizeDev _ rfl)) rfl ⟨.inr ⟨d, hfind.out, hmem.out, rfl⟩, hB3.out⟩
  · have hfind : Hid (refFind l i = none) := refIdx_nofind h0
    generalize refIdx l i = R at *
    have hone : (#[.int .i64 0, .int .i64 0, .string ⟨#[]⟩, .string ⟨#[]⟩, .string ⟨#[]⟩, .string ⟨#[]⟩, .string ⟨#[]⟩, .int .i64 0, .int .i64 0, .slice none 0 0] : Array Value).all (·.oneCell') = true := by simp [Value.oneCell']
    have hB3 : Hid (Below w.heap.size w (v1.setRow (w.heap.size + 1) #[.int .i64 0, .int .i64 0, .string ⟨#[]⟩, .string ⟨#[]⟩, .string ⟨#[]⟩, .string ⟨#[]⟩, .string ⟨#[]⟩, .int .i64 0, .int .i64 0, .slice none 0 0])) := below_row hb2.out hlt _
    have hZ3 : Hid (Blk (v1.setRow (w.heap.size + 1) #[.int .i64 0, .int .i64 0, .string ⟨#[]⟩, .string ⟨#[]⟩, .string ⟨#[]⟩, .string ⟨#[]⟩, .string ⟨#[]⟩, .int .i64 0, .int .i64 0, .slice none 0 0]) (w.heap.size + 1) 40 #[.int .i64 0, .int .i64 0, .string ⟨#[]⟩, .string ⟨#[]⟩, .string ⟨#[]⟩, .string ⟨#[]⟩, .string ⟨#[]⟩, .int .i64 0, .int .i64 0, .slice none 0 0]) := hY1.out.row _
    clear hl'
    go_wp2_with (refine wpList_store_row rfl 40 (.tmp 4) (.tmp 18) rfl (w.heap.size + 1) #[.int .i64 0, .int .i64 0, .string ⟨#[]⟩, .string ⟨#[]⟩, .string ⟨#[]⟩, .string ⟨#[]⟩, .string ⟨#[]⟩, .int .i64 0, .int .i64 0, .slice none 0 0] rfl rfl 40 #[.int .i64 0, .int .i64 0, .string ⟨#[]⟩, .string ⟨#[]⟩, .string ⟨#[]⟩, .string ⟨#[]⟩, .string ⟨#[]⟩, .int .i64 0, .int .i64 0, .slice none 0 0] hY1.out (sizeDev _ rfl) rfl hone ?_)
    exact bodyPost_ret (results_row_tmp rfl _ _ (w.heap.size + 1) 40 _ _ rfl hZ3.out Tryz.underlying40 rfl (sizeDev _ rfl)) rfl ⟨.inl ⟨hfind.out, rfl⟩, hB3.out⟩

def chainR (l : List Dev) : Nat → Int → List Dev
  | 0, _ => []
  | f + 1, i => match refFind l i with
    | none => []
    | some d => d :: chainR l f d.par
theorem chainR_some {l : List Dev} {f : Nat} {i : Int} {d : Dev} (h : refFind l i = some d) : chainR l (f + 1) i = d :: chainR l f d.par := by simp [chainR, h]
theorem chainR_none {l : List Dev} {f : Nat} {i : Int} (h : refFind l i = none) : chainR l f i = [] := by
  cases f with
  | zero => rfl
  | succ f => simp [chainR, h]
theorem chainR_len (l : List Dev) : ∀ (f : Nat) (i : Int), (chainR l f i).length ≤ f
  | 0, _ => Nat.le_refl _
  | f + 1, i => by
    unfold chainR
    split
    · simp
    · rename_i d _
      have := chainR_len l f d.par
      simp; omega
def lenV : Value → Nat
  | .slice _ n _ => n
  | _ => 0

set_option maxRecDepth 100000 in
set_option maxHeartbeats 4000000 in
theorem rchain_any (l : List Dev) (p : Option Addr) (n c : Nat) (i : Int) (w : World) (hl : DevsAt w (.slice p n c) l) (hn : n ≤ 1000) :
    Calls Tryz.prog 23 #[.agg #[.slice p n c], .int .i64 i] w fun e w' => (∃ q m d, e = .returned (.slice q m d) ∧ OwnV w' w.heap.size q m d (chainR l n i)) ∧ Below w.heap.size w w' := by
  have hb1 : Hid (Below w.heap.size w (w.alloc (.cells #[.slice p n c] 30))) := (Below.refl _ _).alloc (Nat.le_refl _) _
  have hX : Hid (Blk (w.alloc (.cells #[.slice p n c] 30)) w.heap.size 30 #[.slice p n c]) := Blk.new _ _ _
  have hl' := Lib.hid (hl.below hb1.out); clear hl
  obtain ⟨R, hR⟩ : ∃ R, chainR l n i = R := ⟨_, rfl⟩
  rw [hR]
  have hR' := Lib.hid hR; clear hR
  go_enter Tryz.func23, Tryz.ntmps23
  go_upto_region 1 with fail
  generalize w.alloc (.cells #[.slice p n c] 30) = w2 at *
  go_wp2_with fail
  go_loopw [1, 5] (fun s1 s5 wr => ∃ (j : Int) (q : Option Addr) (m d : Nat) (L : List Dev), s1 = .int .i64 j ∧ s5 = .slice q m d ∧ m ≤ n ∧ Hid (OwnV wr w2.heap.size q m d L) ∧ Hid (L ++ chainR l (n - m) j = R) ∧ Hid (Below w2.heap.size w2 wr)) (fun _ s5 _ => n - lenV s5)
  case atStart => exact ⟨i, none, 0, 0, [], rfl, rfl, by omega, (show OwnV w2 _ none 0 0 [] from ownV_none _ _), (show [] ++ chainR l (n - 0) i = R from hR'.out), (show Below w2.heap.size w2 w2 from Below.refl _ _)⟩
  case round =>
    obtain ⟨j, q, m, d, L, rfl, rfl, hm, hown, hch, hb⟩ := hrel
    have x0 := (hX.out.below hb.out hX.out.lt).cell 0
    simp only [List.getElem?_toArray, List.getElem?_cons_zero] at x0
    by_cases hmn : m < n
    · have im : (m : Int) < (n : Int) := by omega
      have hF := Lib.hid (rfind_any l p n c j wr (hl'.out.below hb.out) (by omega))
      go_wp2_with fail
      refine hF.out.mono ?_
      rintro e v1 ⟨hp, hbv⟩
      have hb3 := Lib.hid (hb.out.trans (hbv.mono hb.out.size))
      have hown3 := Lib.hid (hown.out.later hbv)
      clear x0 hF hbv hown hb
      rcases hp with ⟨hno, rfl⟩ | ⟨dv, hd, hmem, rfl⟩
      · have hend : Hid (OwnV v1 w.heap.size q m d R) := by
          have h1 := hch.out
          rw [chainR_none hno, List.append_nil] at h1
          subst h1
          exact ⟨hown3.out.1, own_mono hown3.out.2 hb1.out.size⟩
        have hb4 := Lib.hid (hb1.out.trans (hb3.out.mono hb1.out.size))
        unfold zeroDev
        clear hno hch
        go_wp2_with fail
        go_ret
        exact ⟨⟨_, _, _, rfl, ⟨hend.out.1, World.ownsRow.alloc hend.out.2 _⟩⟩, hb4.out.alloc hb4.out.size _⟩
      · have hst : Hid ((L ++ [dv]) ++ chainR l (n - (m + 1)) dv.par = R) := by
          have h1 := hch.out
          rw [show n - m = (n - (m + 1)) + 1 by omega, chainR_some hd] at h1
          rw [List.append_assoc]
          exact h1
        have hB5 : Hid (Blk (v1.alloc (.cells (devC dv).toArray 40)) v1.heap.size 40 (devC dv).toArray) := Blk.new _ _ _
        have hb5 : Hid (Below w2.heap.size w2 (v1.alloc (.cells (devC dv).toArray 40))) := hb3.out.alloc hb3.out.size _
        have hown5 : Hid (OwnV (v1.alloc (.cells (devC dv).toArray 40)) w2.heap.size q m d L) := hown3.out.alloc _
        have hdis : Hid (∀ g, (Value.slice q m d).ownBlock = some g → g ≠ v1.heap.size) := fun g hg e => by have := (World.ownsRow.lt hown3.out.2 g hg).2; omega
        unfold devV devC Dev.atv at *
        obtain ⟨x0, x1, x2, x3, x4, x5, x6, x7, x8, xa, xn, xc, xt⟩ := dv
        simp only at hB5 hb5 hown5 hst ⊢
        clear hd hmem hch hown3 hb3
        go_upto_region 5 with fail
        generalize v1.alloc (.cells #[.int .i64 x0, .int .i64 x1, .string x2, .string x3, .string x4, .string x5, .string x6, .int .i64 x7, .int .i64 x8, .slice xa xn xc] 40) = w5 at *
        go_wp2_with (first
          | (refine wpList_load_row rfl 40 (.tmp 6) rfl v1.heap.size rfl 40 _ (0, 0) _ hB5.out Tryz.underlying40 rfl rfl ?_)
          | (at_builtin; refine list_app_devs (by rfl) (.tmp 22) (.tmp 24) w2.heap.size q m d L _ 1 [⟨x0, x1, x2, x3, x4, x5, x6, x7, x8, xa, xn, xc, xt⟩] (by rfl) (by rfl) (hown5.out.alloc _) (by rfl) (blk_dev (Blk.new w5 40 (devC ⟨x0, x1, x2, x3, x4, x5, x6, x7, x8, xa, xn, xc, xt⟩).toArray)) (m + 1) (by rfl) (by omega) (hb5.out.alloc hb5.out.size _).size ?_; intro q2 d2 y2 ho2 hO2; have hB6 := (hB5.out.alloc (.cells #[.int .i64 x0, .int .i64 x1, .string x2, .string x3, .string x4, .string x5, .string x6, .int .i64 x7, .int .i64 x8, .slice xa xn xc] 40)).same (hO2.block _ (hB5.out.alloc _).lt fun e => hdis.out _ e rfl); have c1 := hB6.cell 1; simp only [List.getElem?_toArray, List.getElem?_cons_zero, List.getElem?_cons_succ] at c1)
          | fail)
        have hb6 := Lib.hid (belowV (by exact Nat.le_refl _) (hb5.out.alloc hb5.out.size _) (hown5.out.alloc _) hO2)
        have ho2' := Lib.hid ho2
        go_roundw
        case rel => exact ⟨x1, q2, m + 1, d2, _, rfl, rfl, by omega, ho2', hst, hb6⟩
        case measure => simp [lenV]; omega
    · obtain rfl : m = n := by omega
      have hend : Hid (OwnV wr w.heap.size q m d R) := by
        have h1 := hch.out
        rw [Nat.sub_self] at h1
        have h2 : L ++ [] = R := h1
        rw [List.append_nil] at h2
        subst h2
        exact ⟨hown.out.1, own_mono hown.out.2 hb1.out.size⟩
      clear hch
      go_wp2_with fail
      go_ret
      exact ⟨⟨_, _, _, rfl, hend.out⟩, hb1.out.trans (hb.out.mono hb1.out.size)⟩

end Go.Proofs.YtinjeijjfkkhbaaGreatDoor
