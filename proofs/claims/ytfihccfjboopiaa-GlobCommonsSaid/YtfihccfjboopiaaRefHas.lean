/-
  THE WALKS of coldplugref02.has and better; lists of pairs in memory.
-/
import Derived.Test.YtfihccfjboopiaaRefComQ
import Derived.Test.YtfihccfjboopiaaRowAt
namespace Go.Proofs.Ytfihccfjboopiaa
open Go.RowKit

/-- A pair of places with its text. -/
abbrev PE := G.Pos × ByteArray
def entOf (x : PE) : G.Ent := (x.1, bs x.2)
def pairC (x : PE) : List Value := [.int .i64 x.1.a, .int .i64 x.1.b, .int .i64 x.1.i, .int .i64 x.1.j, .string x.2]
def PairsAt (w : World) (v : Value) (l : List PE) : Prop := RowAt w v 5 (l.map pairC)
theorem has_ents {l : List PE} {z : G.Pos} : G.hasP (l.map entOf) z = l.any fun x => decide (x.1 = z) := by
  unfold G.hasP
  rw [List.any_map]
  rfl
theorem has_yes {l : List PE} {z : G.Pos} {k : Nat} {x : PE} (hk : l[k]? = some x) (hx : x.1 = z) : G.hasP (l.map entOf) z = true := by
  rw [has_ents]
  exact List.any_eq_true.2 ⟨x, List.mem_of_getElem? hk, by simp [hx]⟩
theorem has_no {l : List PE} {z : G.Pos} (h : ∀ x ∈ l, x.1 ≠ z) : G.hasP (l.map entOf) z = false := by
  rw [has_ents]
  exact List.any_eq_false.2 fun x hx => by simp [h x hx]
theorem find_ents {l : List PE} {z : G.Pos} {k : Nat} {x : PE} (hk : l[k]? = some x) (hno : ∀ y ∈ l.take k, y.1 ≠ z) (hx : x.1 = z) : (l.map entOf).find? (fun e => decide (e.1 = z)) = some (entOf x) := by
  have hkl := (List.getElem?_eq_some_iff.1 hk).1
  have hs : l = l.take k ++ x :: l.drop (k + 1) := by
    have := List.getElem?_eq_some_iff.1 hk
    rw [← this.2, List.getElem_cons_drop, List.take_append_drop]
  rw [hs, List.map_append, List.find?_append]
  have : ((l.take k).map entOf).find? (fun e => decide (e.1 = z)) = none := by
    rw [List.find?_eq_none]
    intro e he
    obtain ⟨y, hy, rfl⟩ := List.mem_map.1 he
    have h2 : decide ((entOf y).1 = z) = false := decide_eq_false (hno y hy)
    rw [h2]
    exact Bool.false_ne_true
  rw [this]
  simp [entOf, hx]
theorem find_ents_no {l : List PE} {z : G.Pos} (h : ∀ x ∈ l, x.1 ≠ z) : (l.map entOf).find? (fun e => decide (e.1 = z)) = none := by
  rw [List.find?_eq_none]
  intro e he
  obtain ⟨y, hy, rfl⟩ := List.mem_map.1 he
  have h2 : decide ((entOf y).1 = z) = false := decide_eq_false (h y hy)
  rw [h2]
  exact Bool.false_ne_true
/-- Go's order of texts. -/
theorem bl_tlt : ∀ (a b : List UInt8), Op.bytesLess a b = G.tlt (a.map UInt8.toNat) (b.map UInt8.toNat)
  | [], [] => rfl
  | [], _ :: _ => rfl
  | _ :: _, [] => rfl
  | x :: a, y :: b => by
    unfold Op.bytesLess
    simp only [List.map_cons, G.tlt]
    rw [bl_tlt a b]
    have h1 : (x < y) ↔ x.toNat < y.toNat := UInt8.lt_iff_toNat_lt
    have h2 : (x = y) ↔ x.toNat = y.toNat := UInt8.toNat_inj.symm
    by_cases e1 : x < y
    · simp [e1, h1.1 e1]
    · by_cases e2 : x = y
      · subst e2; simp
      · rw [show (x == y) = false from beq_eq_false_iff_ne.2 e2, decide_eq_false e1, decide_eq_false (fun h => e1 (h1.2 h)), decide_eq_false (fun h => e2 (h2.2 h))]
theorem less_tlt (s t : ByteArray) : Op.bytesLess s.toList t.toList = G.tlt (bs s) (bs t) := by
  rw [ByteArray.toList_eq, ByteArray.toList_eq]
  exact bl_tlt _ _

set_option maxRecDepth 100000 in
set_option maxHeartbeats 4000000 in
theorem rhas_any (l : List PE) (v : Value) (z : PE) (w : World) (hl : PairsAt w v l) :
    Calls Try.prog 53 #[v, .agg #[.int .i64 z.1.a, .int .i64 z.1.b, .int .i64 z.1.i, .int .i64 z.1.j, .string z.2]] w fun e w' => e = .returned (.bool (G.hasP (l.map entOf) z.1)) ∧ Below w.heap.size w w' := by
  obtain ⟨hlen, hl2⟩ := hl
  obtain ⟨R, hR⟩ : ∃ R, (G.hasP (l.map entOf) z.1) = R := ⟨_, rfl⟩
  rw [hR]
  have hR' := Lib.hid hR; clear hR
  obtain ⟨⟨za, zi, zb, zj⟩, zt⟩ := z
  dsimp only at hR' ⊢
  have hb0 : Hid (Below w.heap.size w (w.alloc (.cells #[.int .i64 za, .int .i64 zb, .int .i64 zi, .int .i64 zj, .string zt] 97))) := (Below.refl _ _).alloc (Nat.le_refl _) _
  have hZ0 : Hid (Blk (w.alloc (.cells #[.int .i64 za, .int .i64 zb, .int .i64 zi, .int .i64 zj, .string zt] 97)) w.heap.size 97 #[.int .i64 za, .int .i64 zb, .int .i64 zi, .int .i64 zj, .string zt]) := Blk.new _ _ _
  rcases hl2 with ⟨rfl, h0⟩ | ⟨g, o, cap, rfl, hg, hc⟩
  · have hl0 : l = [] := List.map_eq_nil_iff.1 h0
    subst hl0
    have hF : R = false := by rw [← hR'.out]; rfl
    subst hF
    clear hR' hlen h0
    go_enter Try.func53, Try.ntmps53
    go_wp2_with fail
    go_loopw [5] (fun s5 wr => s5 = .int .i64 0 ∧ Hid (Below w.heap.size w wr)) (fun _ _ => 0)
    case atStart => exact ⟨rfl, hb0⟩
    case round =>
      obtain ⟨rfl, hb⟩ := hrel
      go_wp2_with fail
      go_ret
      exact ⟨rfl, hb.out⟩
  · rw [List.length_map] at hlen ⊢
    obtain ⟨m, hm⟩ : ∃ m, l.length = m := ⟨_, rfl⟩
    rw [hm] at hlen ⊢
    have hm' := Lib.hid hm; clear hm
    have hc' : Hid (∀ (k : Nat) (x : PE), l[k]? = some x → (w.cell? ⟨g, o + k * 5, none⟩ = some (.int .i64 x.1.a) ∧ w.cell? ⟨g, o + k * 5 + 1, none⟩ = some (.int .i64 x.1.b)) ∧ w.cell? ⟨g, o + k * 5 + 2, none⟩ = some (.int .i64 x.1.i) ∧ w.cell? ⟨g, o + k * 5 + 3, none⟩ = some (.int .i64 x.1.j) ∧ w.cell? ⟨g, o + k * 5 + 4, none⟩ = some (.string x.2)) := fun k x hx => by
      have hx2 : (l.map pairC)[k]? = some (pairC x) := by rw [List.getElem?_map, hx]; rfl
      exact ⟨⟨hc k _ hx2 0 _ rfl, hc k _ hx2 1 _ rfl⟩, hc k _ hx2 2 _ rfl, hc k _ hx2 3 _ rfl, hc k _ hx2 4 _ rfl⟩
    clear hc
    go_enter Try.func53, Try.ntmps53
    go_wp2_with fail
    go_loopw [5] (fun s5 wr => ∃ k : Nat, s5 = .int .i64 k ∧ k ≤ m ∧ Hid (∀ x ∈ l.take k, x.1 ≠ ⟨za, zi, zb, zj⟩) ∧ Hid (Below w.heap.size w wr) ∧ Hid (Blk wr w.heap.size 97 #[.int .i64 za, .int .i64 zb, .int .i64 zi, .int .i64 zj, .string zt])) (fun s5 _ => m - (intOf s5).toNat)
    case atStart => exact ⟨0, rfl, by omega, (show ∀ x ∈ l.take 0, x.1 ≠ ⟨za, zi, zb, zj⟩ from fun x hx => by simp at hx), hb0, hZ0⟩
    case round =>
      clear hb0 hZ0
      obtain ⟨k, rfl, hk, hno, hb, hZ⟩ := hrel
      by_cases hkm : k < m
      · obtain ⟨x, hx⟩ : ∃ x, l[k]? = some x := ⟨_, List.getElem?_eq_getElem (by have := hm'.out; omega)⟩
        obtain ⟨⟨c0, c1⟩, c2, c3, c4⟩ := hc'.out k x hx
        have e : ∀ i, wr.cell? ⟨g, i, none⟩ = w.cell? ⟨g, i, none⟩ := fun i => World.cell?_of_block (hb.out.block g hg)
        rw [← e] at c0 c1 c2 c3 c4
        have z0 := hZ.out.cell 0
        have z1 := hZ.out.cell 1
        have z2 := hZ.out.cell 2
        have z3 := hZ.out.cell 3
        have z4 := hZ.out.cell 4
        simp only [List.getElem?_toArray, List.getElem?_cons_zero, List.getElem?_cons_succ] at z0 z1 z2 z3 z4
        have ik : (k : Int) < (m : Int) := by omega
        have ik0 : (0 : Int) ≤ (k : Int) := by omega
        have hx' := Lib.hid hx; clear hx e
        obtain ⟨⟨xa, xi, xb, xj⟩, xt⟩ := x
        dsimp only at c0 c1 c2 c3 c4
        have hnext : Hid (¬ (xa = za ∧ xb = zb ∧ xi = zi ∧ xj = zj) → ∀ x ∈ l.take (k + 1), x.1 ≠ ⟨za, zi, zb, zj⟩) := fun h y hy => by
          rw [List.take_add_one, hx'.out] at hy
          rcases List.mem_append.1 hy with hy | hy
          · exact hno.out y hy
          · simp at hy; subst hy
            intro e
            cases e
            exact h ⟨rfl, rfl, rfl, rfl⟩
        by_cases ea : xa = za
        · subst ea
          by_cases eb : xb = zb
          · subst eb
            by_cases ei : xi = zi
            · subst ei
              by_cases ej : xj = zj
              · subst ej
                clear hnext
                have hF : R = true := by rw [← hR'.out]; exact has_yes hx'.out rfl
                subst hF
                clear hno hR'
                go_wp2_with fail
                go_quiet (fail)
                go_wp2_with fail
                go_ret
                exact ⟨rfl, below_drawN hb.out _⟩
              · have i1 : ¬ (xj : Int) = (zj : Int) := by omega
                have b1 : ((xj : Int) == (zj : Int)) = false := beq_eq_false_iff_ne.2 i1
                have hno2 := Lib.hid (hnext.out (by omega))
                clear hno hnext
                go_wp2_with fail
                go_quiet (fail)
                go_wp2_with fail
                go_roundw
                case rel => exact ⟨k + 1, by go_num, by omega, hno2, below_drawN hb.out _, hZ.out.drewN _⟩
                case measure => simp [intOf]; omega
            · have i1 : ¬ (xi : Int) = (zi : Int) := by omega
              have b1 : ((xi : Int) == (zi : Int)) = false := beq_eq_false_iff_ne.2 i1
              have hno2 := Lib.hid (hnext.out (by omega))
              clear hno hnext
              go_wp2_with fail
              go_quiet (fail)
              go_wp2_with fail
              go_roundw
              case rel => exact ⟨k + 1, by go_num, by omega, hno2, below_drawN hb.out _, hZ.out.drewN _⟩
              case measure => simp [intOf]; omega
          · have i1 : ¬ (xb : Int) = (zb : Int) := by omega
            have b1 : ((xb : Int) == (zb : Int)) = false := beq_eq_false_iff_ne.2 i1
            have hno2 := Lib.hid (hnext.out (by omega))
            clear hno hnext
            go_wp2_with fail
            go_quiet (fail)
            go_wp2_with fail
            go_roundw
            case rel => exact ⟨k + 1, by go_num, by omega, hno2, below_drawN hb.out _, hZ.out.drewN _⟩
            case measure => simp [intOf]; omega
        · have i1 : ¬ (xa : Int) = (za : Int) := by omega
          have b1 : ((xa : Int) == (za : Int)) = false := beq_eq_false_iff_ne.2 i1
          have hno2 := Lib.hid (hnext.out (by omega))
          clear hno hnext
          go_wp2_with fail
          go_quiet (fail)
          go_wp2_with fail
          go_roundw
          case rel => exact ⟨k + 1, by go_num, by omega, hno2, below_drawN hb.out _, hZ.out.drewN _⟩
          case measure => simp [intOf]; omega
      · obtain rfl : k = m := by omega
        have hF : R = false := by
          rw [← hR'.out]
          exact has_no fun x hx => hno.out x (by rw [List.take_of_length_le (by have := hm'.out; omega)]; exact hx)
        subst hF
        clear hno hR'
        go_wp2_with fail
        go_ret
        exact ⟨rfl, hb.out⟩

set_option maxRecDepth 100000 in
set_option maxHeartbeats 4000000 in
theorem rbetter_any (l : List PE) (v : Value) (z : PE) (w : World) (hl : PairsAt w v l) :
    Calls Try.prog 71 #[v, .agg #[.int .i64 z.1.a, .int .i64 z.1.b, .int .i64 z.1.i, .int .i64 z.1.j, .string z.2]] w fun e w' => e = .returned (.bool (G.betterP (l.map entOf) (entOf z))) ∧ Below w.heap.size w w' := by
  obtain ⟨hlen, hl2⟩ := hl
  obtain ⟨R, hR⟩ : ∃ R, (G.betterP (l.map entOf) (entOf z)) = R := ⟨_, rfl⟩
  rw [hR]
  have hR' := Lib.hid hR; clear hR
  obtain ⟨⟨za, zi, zb, zj⟩, zt⟩ := z
  dsimp only at hR' ⊢
  have hb0 : Hid (Below w.heap.size w (w.alloc (.cells #[.int .i64 za, .int .i64 zb, .int .i64 zi, .int .i64 zj, .string zt] 97))) := (Below.refl _ _).alloc (Nat.le_refl _) _
  have hZ0 : Hid (Blk (w.alloc (.cells #[.int .i64 za, .int .i64 zb, .int .i64 zi, .int .i64 zj, .string zt] 97)) w.heap.size 97 #[.int .i64 za, .int .i64 zb, .int .i64 zi, .int .i64 zj, .string zt]) := Blk.new _ _ _
  rcases hl2 with ⟨rfl, h0⟩ | ⟨g, o, cap, rfl, hg, hc⟩
  · have hl0 : l = [] := List.map_eq_nil_iff.1 h0
    subst hl0
    have hF : R = true := by rw [← hR'.out]; rfl
    subst hF
    clear hR' hlen h0
    go_enter Try.func71, Try.ntmps71
    go_wp2_with fail
    go_loopw [5] (fun s5 wr => s5 = .int .i64 0 ∧ Hid (Below w.heap.size w wr)) (fun _ _ => 0)
    case atStart => exact ⟨rfl, hb0⟩
    case round =>
      obtain ⟨rfl, hb⟩ := hrel
      go_wp2_with fail
      go_ret
      exact ⟨rfl, hb.out⟩
  · rw [List.length_map] at hlen ⊢
    obtain ⟨m, hm⟩ : ∃ m, l.length = m := ⟨_, rfl⟩
    rw [hm] at hlen ⊢
    have hm' := Lib.hid hm; clear hm
    have hc' : Hid (∀ (k : Nat) (x : PE), l[k]? = some x → (w.cell? ⟨g, o + k * 5, none⟩ = some (.int .i64 x.1.a) ∧ w.cell? ⟨g, o + k * 5 + 1, none⟩ = some (.int .i64 x.1.b)) ∧ w.cell? ⟨g, o + k * 5 + 2, none⟩ = some (.int .i64 x.1.i) ∧ w.cell? ⟨g, o + k * 5 + 3, none⟩ = some (.int .i64 x.1.j) ∧ w.cell? ⟨g, o + k * 5 + 4, none⟩ = some (.string x.2)) := fun k x hx => by
      have hx2 : (l.map pairC)[k]? = some (pairC x) := by rw [List.getElem?_map, hx]; rfl
      exact ⟨⟨hc k _ hx2 0 _ rfl, hc k _ hx2 1 _ rfl⟩, hc k _ hx2 2 _ rfl, hc k _ hx2 3 _ rfl, hc k _ hx2 4 _ rfl⟩
    clear hc
    go_enter Try.func71, Try.ntmps71
    go_wp2_with fail
    go_loopw [5] (fun s5 wr => ∃ k : Nat, s5 = .int .i64 k ∧ k ≤ m ∧ Hid (∀ x ∈ l.take k, x.1 ≠ ⟨za, zi, zb, zj⟩) ∧ Hid (Below w.heap.size w wr) ∧ Hid (Blk wr w.heap.size 97 #[.int .i64 za, .int .i64 zb, .int .i64 zi, .int .i64 zj, .string zt])) (fun s5 _ => m - (intOf s5).toNat)
    case atStart => exact ⟨0, rfl, by omega, (show ∀ x ∈ l.take 0, x.1 ≠ ⟨za, zi, zb, zj⟩ from fun x hx => by simp at hx), hb0, hZ0⟩
    case round =>
      clear hb0 hZ0
      obtain ⟨k, rfl, hk, hno, hb, hZ⟩ := hrel
      by_cases hkm : k < m
      · obtain ⟨x, hx⟩ : ∃ x, l[k]? = some x := ⟨_, List.getElem?_eq_getElem (by have := hm'.out; omega)⟩
        obtain ⟨⟨c0, c1⟩, c2, c3, c4⟩ := hc'.out k x hx
        have e : ∀ i, wr.cell? ⟨g, i, none⟩ = w.cell? ⟨g, i, none⟩ := fun i => World.cell?_of_block (hb.out.block g hg)
        rw [← e] at c0 c1 c2 c3 c4
        have z0 := hZ.out.cell 0
        have z1 := hZ.out.cell 1
        have z2 := hZ.out.cell 2
        have z3 := hZ.out.cell 3
        have z4 := hZ.out.cell 4
        simp only [List.getElem?_toArray, List.getElem?_cons_zero, List.getElem?_cons_succ] at z0 z1 z2 z3 z4
        have ik : (k : Int) < (m : Int) := by omega
        have ik0 : (0 : Int) ≤ (k : Int) := by omega
        have hx' := Lib.hid hx; clear hx e
        obtain ⟨⟨xa, xi, xb, xj⟩, xt⟩ := x
        dsimp only at c0 c1 c2 c3 c4
        have hnext : Hid (¬ (xa = za ∧ xb = zb ∧ xi = zi ∧ xj = zj) → ∀ x ∈ l.take (k + 1), x.1 ≠ ⟨za, zi, zb, zj⟩) := fun h y hy => by
          rw [List.take_add_one, hx'.out] at hy
          rcases List.mem_append.1 hy with hy | hy
          · exact hno.out y hy
          · simp at hy; subst hy
            intro e
            cases e
            exact h ⟨rfl, rfl, rfl, rfl⟩
        by_cases ea : xa = za
        · subst ea
          by_cases eb : xb = zb
          · subst eb
            by_cases ei : xi = zi
            · subst ei
              by_cases ej : xj = zj
              · subst ej
                clear hnext
                have hF : Op.bytesLess zt.toList xt.toList = R := by
                  rw [← hR'.out, less_tlt]
                  unfold G.betterP
                  rw [find_ents (z := (entOf (⟨xa, xi, xb, xj⟩, zt)).1) hx'.out hno.out rfl]
                  rfl
                clear hno hR'
                go_wp2_with fail
                go_quiet (fail)
                go_wp2_with fail
                go_quiet (fail)
                go_wp2_with fail
                go_ret
                exact ⟨rfl, below_drawN (below_drawN hb.out _) _⟩
              · have i1 : ¬ (xj : Int) = (zj : Int) := by omega
                have b1 : ((xj : Int) == (zj : Int)) = false := beq_eq_false_iff_ne.2 i1
                have hno2 := Lib.hid (hnext.out (by omega))
                clear hno hnext
                go_wp2_with fail
                go_quiet (fail)
                go_wp2_with fail
                go_roundw
                case rel => exact ⟨k + 1, by go_num, by omega, hno2, below_drawN hb.out _, hZ.out.drewN _⟩
                case measure => simp [intOf]; omega
            · have i1 : ¬ (xi : Int) = (zi : Int) := by omega
              have b1 : ((xi : Int) == (zi : Int)) = false := beq_eq_false_iff_ne.2 i1
              have hno2 := Lib.hid (hnext.out (by omega))
              clear hno hnext
              go_wp2_with fail
              go_quiet (fail)
              go_wp2_with fail
              go_roundw
              case rel => exact ⟨k + 1, by go_num, by omega, hno2, below_drawN hb.out _, hZ.out.drewN _⟩
              case measure => simp [intOf]; omega
          · have i1 : ¬ (xb : Int) = (zb : Int) := by omega
            have b1 : ((xb : Int) == (zb : Int)) = false := beq_eq_false_iff_ne.2 i1
            have hno2 := Lib.hid (hnext.out (by omega))
            clear hno hnext
            go_wp2_with fail
            go_quiet (fail)
            go_wp2_with fail
            go_roundw
            case rel => exact ⟨k + 1, by go_num, by omega, hno2, below_drawN hb.out _, hZ.out.drewN _⟩
            case measure => simp [intOf]; omega
        · have i1 : ¬ (xa : Int) = (za : Int) := by omega
          have b1 : ((xa : Int) == (za : Int)) = false := beq_eq_false_iff_ne.2 i1
          have hno2 := Lib.hid (hnext.out (by omega))
          clear hno hnext
          go_wp2_with fail
          go_quiet (fail)
          go_wp2_with fail
          go_roundw
          case rel => exact ⟨k + 1, by go_num, by omega, hno2, below_drawN hb.out _, hZ.out.drewN _⟩
          case measure => simp [intOf]; omega
      · obtain rfl : k = m := by omega
        have hF : R = true := by
          rw [← hR'.out]
          unfold G.betterP
          rw [find_ents_no (z := (entOf (⟨za, zi, zb, zj⟩, zt)).1) fun x hx => hno.out x (by rw [List.take_of_length_le (by have := hm'.out; omega)]; exact hx)]
        subst hF
        clear hno hR'
        go_wp2_with fail
        go_ret
        exact ⟨rfl, hb.out⟩

end Go.Proofs.Ytfihccfjboopiaa
