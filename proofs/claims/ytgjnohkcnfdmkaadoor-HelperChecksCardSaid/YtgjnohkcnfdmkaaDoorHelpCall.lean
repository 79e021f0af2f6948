/-
  THE WALKS of helper.Call, of the function values that it makes, and of slices.IndexFunc at a table of helpers.
-/
import Derived.Test.YtgjnohkcnfdmkaaDoorGlobMatchFn
import Derived.Defers
namespace Go.Proofs.YtgjnohkcnfdmkaaDoor
open Go.RowKit

/-- A helper of a table. -/
structure Hp where
  cmd : ByteArray
  out : ByteArray
  fails : Bool
  ticks : Int
def hpV (h : Hp) : Array Value := #[.string h.cmd, .string h.out, .bool h.fails, .int .i64 h.ticks]
def flatH : List Hp → List Value
  | [] => []
  | h :: l => .string h.cmd :: .string h.out :: .bool h.fails :: .int .i64 h.ticks :: flatH l
theorem flatH_app (l m : List Hp) : flatH (l ++ m) = flatH l ++ flatH m := by
  induction l with
  | nil => rfl
  | cons a l ih => simp [flatH, ih]
theorem length_flatH (l : List Hp) : (flatH l).length = l.length * 4 := by
  induction l with
  | nil => rfl
  | cons a l ih => simp [flatH, ih]; omega
theorem flatH_get : ∀ (l : List Hp) (k : Nat) (h : Hp), l[k]? = some h → (flatH l)[k * 4]? = some (.string h.cmd) ∧ (flatH l)[k * 4 + 1]? = some (.string h.out) ∧ (flatH l)[k * 4 + 2]? = some (.bool h.fails) ∧ (flatH l)[k * 4 + 3]? = some (.int .i64 h.ticks)
  | [], k, h, e => by cases e
  | a :: l, 0, h, e => by
    simp at e
    subst e
    exact ⟨rfl, rfl, rfl, rfl⟩
  | a :: l, k + 1, h, e => by
    have := flatH_get l k h (by simpa using e)
    rw [show (k + 1) * 4 = k * 4 + 1 + 1 + 1 + 1 from by omega]
    exact this
theorem one_flatH : ∀ (l : List Hp), ∀ v ∈ flatH l, v.oneCell' = true
  | [], v, h => by cases h
  | a :: l, v, h => by
    simp only [flatH, List.mem_cons] at h
    rcases h with h | h | h | h | h
    · subst h; rfl
    · subst h; rfl
    · subst h; rfl
    · subst h; rfl
    · exact one_flatH l v h

/-- A table in memory: to be read. -/
def HelpersAt (w : World) (v : Value) (l : List Hp) : Prop :=
  l.length ≤ 1000000 ∧ ((v = .slice none 0 0 ∧ l = []) ∨ ∃ g o cap, v = .slice (some ⟨g, o, none⟩) l.length cap ∧ g < w.heap.size ∧
    ∀ (k : Nat) (h : Hp), l[k]? = some h → w.cell? ⟨g, o + k * 4, none⟩ = some (.string h.cmd) ∧ w.cell? ⟨g, o + k * 4 + 1, none⟩ = some (.string h.out) ∧ w.cell? ⟨g, o + k * 4 + 2, none⟩ = some (.bool h.fails) ∧ w.cell? ⟨g, o + k * 4 + 3, none⟩ = some (.int .i64 h.ticks))
theorem HelpersAt.below {w w' : World} {v : Value} {l : List Hp} (h : HelpersAt w v l) (hb : Below w.heap.size w w') : HelpersAt w' v l := by
  refine ⟨h.1, ?_⟩
  rcases h.2 with h | ⟨g, o, cap, rfl, hg, hc⟩
  · exact .inl h
  · refine .inr ⟨g, o, cap, rfl, by have := hb.size; omega, fun k x hx => ?_⟩
    have e : ∀ i, w'.cell? ⟨g, i, none⟩ = w.cell? ⟨g, i, none⟩ := fun i => World.cell?_of_block (hb.block g hg)
    simp only [e]
    exact hc k x hx

def hits (c : ByteArray) (h : Hp) : Bool := G.matchS (bs h.cmd) (bs c)
/-- The number of the first helper that matches, or -1. -/
def idxS (l : List Hp) (c : ByteArray) : Int := match l.findIdx? (hits c) with
  | some k => k
  | none => -1

theorem pred_any (h : Hp) (c : ByteArray) (cb : Nat) (w : World) (hcb : w.cell? ⟨cb, 0, none⟩ = some (.string c)) (h1 : h.cmd.size ≤ 1000000000000) (h2 : c.size ≤ 1000000000000) :
    Calls Tryd.prog 26 #[.agg (hpV h), .pointer (some ⟨cb, 0, none⟩)] w fun e w' => e = .returned (.bool (hits c h)) ∧ Below w.heap.size w w' := by
  have hlt : cb < w.heap.size := World.block_lt_of_cell? w _ hcb
  unfold hpV hits
  obtain ⟨cm, ou, fa, ti⟩ := h
  simp only at h1 ⊢
  have hM := fun W => match_any cm c W h1 h2
  have hM' := Lib.hid hM; clear hM
  generalize G.matchS (bs cm) (bs c) = m at *
  have hcb2 : (w.alloc (.cells #[.string cm, .string ou, .bool fa, .int .i64 ti] 40)).cell? ⟨cb, 0, none⟩ = some (.string c) := by
    rw [World.cell?_alloc_lt _ _ _ hlt]; exact hcb
  go_enter Tryd.func26, Tryd.ntmps26
  go_wp2_with fail
  refine (hM'.out _).mono ?_
  rintro e v1 ⟨rfl, hb1⟩
  have k1 : Below w.heap.size w v1 := ((Below.refl _ _).alloc (Nat.le_refl _) _).trans (hb1.mono (by simp))
  have k1' := Lib.hid k1; clear k1 hb1
  go_wp2_with fail
  go_ret
  exact ⟨rfl, k1'.out⟩

theorem idx_none {l : List Hp} {c : ByteArray} (h : ∀ x ∈ l, hits c x = false) : idxS l c = -1 := by
  unfold idxS
  rw [List.findIdx?_eq_none_iff.2 h]
theorem idx_some {l : List Hp} {c : ByteArray} {k : Nat} {h : Hp} (hk : l[k]? = some h) (hb : ∀ j x, j < k → l[j]? = some x → hits c x = false) (hh : hits c h = true) : idxS l c = k := by
  unfold idxS
  have hlt : k < l.length := (List.getElem?_eq_some_iff.1 hk).1
  have he : l[k] = h := (List.getElem?_eq_some_iff.1 hk).2
  have : l.findIdx? (hits c) = some k := by
    rw [List.findIdx?_eq_some_iff_getElem]
    refine ⟨hlt, by rw [he]; exact hh, fun j hj => ?_⟩
    rw [hb j _ hj (List.getElem?_eq_getElem (by omega))]
    simp
  rw [this]

set_option maxHeartbeats 1000000 in
theorem index_any (l : List Hp) (v : Value) (c : ByteArray) (cb : Nat) (w : World) (hl : HelpersAt w v l) (hcb : w.cell? ⟨cb, 0, none⟩ = some (.string c)) (h1 : ∀ h ∈ l, h.cmd.size ≤ 1000000000000) (h2 : c.size ≤ 1000000000000) :
    Calls Tryd.prog 25 #[v, .func (Fn.func 26) #[] #[.pointer (some ⟨cb, 0, none⟩)]] w fun e w' => e = .returned (.int .i64 (idxS l c)) ∧ Below w.heap.size w w' := by
  have hlt : cb < w.heap.size := World.block_lt_of_cell? w _ hcb
  obtain ⟨hlen, hl2⟩ := hl
  rcases hl2 with ⟨rfl, rfl⟩ | ⟨g, o, cap, rfl, hg, hcells⟩
  · go_enter Tryd.func25, Tryd.ntmps25
    go_wp2_with fail
    go_loopw [8] (fun s8 wr => s8 = .int .i64 0 ∧ Below w.heap.size w wr) (fun _ _ => 0)
    case atStart => exact ⟨rfl, Below.refl _ _⟩
    case round =>
      obtain ⟨rfl, hb⟩ := hrel
      have hb' := Lib.hid hb; clear hb
      go_wp2_with fail
      go_ret
      exact ⟨rfl, hb'.out⟩
  · have hP := fun h W (hc : W.cell? ⟨cb, 0, none⟩ = some (.string c)) (hh : h ∈ l) => pred_any h c cb W hc (h1 h hh) h2
    have hP' := Lib.hid hP; clear hP
    generalize hn : l.length = n at *
    have hn' := Lib.hid hn; clear hn
    have hcells' := Lib.hid hcells; clear hcells
    have hcb' := Lib.hid hcb; clear hcb
    go_enter Tryd.func25, Tryd.ntmps25
    go_wp2_with fail
    go_loopw [8] (fun s8 wr => ∃ k : Nat, s8 = .int .i64 k ∧ k ≤ n ∧ Below w.heap.size w wr ∧ Hid (∀ j x, j < k → l[j]? = some x → hits c x = false)) (fun s8 _ => n - (intOf s8).toNat)
    case atStart => exact ⟨0, rfl, by omega, Below.refl _ _, fun j x hj => by omega⟩
    case round =>
      obtain ⟨k, rfl, hk, hb, hno⟩ := hrel
      by_cases hkn : k < n
      · obtain ⟨h, hh⟩ : ∃ h, l[k]? = some h := ⟨_, List.getElem?_eq_getElem (by rw [hn'.out]; exact hkn)⟩
        have hmem : h ∈ l := List.mem_of_getElem? hh
        have e : ∀ i, wr.cell? ⟨g, i, none⟩ = w.cell? ⟨g, i, none⟩ := fun i => World.cell?_of_block (hb.block g hg)
        obtain ⟨c0, c1, c2, c3⟩ := hcells'.out k h hh
        rw [← e] at c0 c1 c2 c3
        have hcr : wr.cell? ⟨cb, 0, none⟩ = some (.string c) := (World.cell?_of_block (hb.block cb hlt)).trans hcb'.out
        have hC := hP'.out h wr hcr hmem
        unfold hpV at hC
        have hC' := Lib.hid hC; clear hC hmem hcr e
        have hb' := Lib.hid hb; clear hb
        have hh' := Lib.hid hh; clear hh
        obtain ⟨b, hbb⟩ : ∃ b, hits c h = b := ⟨_, rfl⟩
        rw [hbb] at hC'
        have hbb' := Lib.hid hbb; clear hbb
        obtain ⟨cm, ou, fa, ti⟩ := h
        simp only at c0 c1 c2 c3 hC'
        cases b with
        | true =>
          have hfin := idx_some hh'.out hno hbb'.out
          have hfin' := Lib.hid hfin; clear hfin
          go_wp2_with fail
          refine hC'.out.mono ?_
          rintro e v1 ⟨rfl, hb1⟩
          have k1 : Below w.heap.size w v1 := hb'.out.trans (hb1.mono hb'.out.size)
          have k1' := Lib.hid k1; clear k1 hb1
          go_wp2_with fail
          go_ret
          exact ⟨by rw [hfin'.out]; rfl, k1'.out⟩
        | false =>
          have hfin : ∀ j x, j < k + 1 → l[j]? = some x → hits c x = false := fun j x hj hx => by
            rcases Nat.lt_or_ge j k with h | h
            · exact hno j x h hx
            · obtain rfl : j = k := by omega
              rw [hh'.out] at hx
              cases hx
              exact hbb'.out
          have hfin' := Lib.hid hfin; clear hfin
          go_wp2_with fail
          refine hC'.out.mono ?_
          rintro e v1 ⟨rfl, hb1⟩
          have k1 : Below w.heap.size w v1 := hb'.out.trans (hb1.mono hb'.out.size)
          have k1' := Lib.hid k1; clear k1 hb1
          go_wp2_with fail
          go_roundw
          case rel => exact ⟨k + 1, by go_num, by omega, k1'.out, hfin'.out⟩
          case measure => simp [intOf]; omega
      · obtain rfl : k = n := by omega
        have hfin : idxS l c = -1 := idx_none fun x hx => by
          obtain ⟨j, hj, he⟩ := List.getElem_of_mem hx
          exact hno j x (by have := hn'.out; omega) (he ▸ List.getElem?_eq_getElem hj)
        have hfin' := Lib.hid hfin; clear hfin hno
        have hb' := Lib.hid hb; clear hb
        go_wp2_with fail
        go_ret
        exact ⟨by rw [hfin'.out]; rfl, hb'.out⟩

end Go.Proofs.YtgjnohkcnfdmkaaDoor
