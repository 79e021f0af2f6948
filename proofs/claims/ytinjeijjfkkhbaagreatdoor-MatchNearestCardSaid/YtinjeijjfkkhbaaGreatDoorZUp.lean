/-
  THE WALK of coldpluglaw12.upward: at most three terms of small values.
-/
import Derived.Test.YtinjeijjfkkhbaaGreatDoorMakeTerm
import Derived.Test.YtinjeijjfkkhbaaGreatDoorRef3Set
import Derived.Deep.AppendLies
namespace Go.Proofs.YtinjeijjfkkhbaaGreatDoor
open Go.RowKit

def tUp1 : List ByteArray := [⟨#[117, 115, 98]⟩, ⟨#[98, 108, 111, 99, 107]⟩, ⟨#[112, 99, 105]⟩, ⟨#[42]⟩]
def tUp2 : List ByteArray := [⟨#[115, 100, 42]⟩, ⟨#[112, 99, 105, 48]⟩, ⟨#[117, 115, 98, 63]⟩, ⟨#[112, 111, 114, 116]⟩]
theorem sizeTerm (a : Array Value) (h : a.size = 4) : (Tryz.prog.info? 46).map (·.size) = some a.size := by
  rw [h]; kernel_rfl
theorem info_term : (Tryz.prog.info? 46).map (fun i => (i.zero, i.size, i.bytes)) = some (some (.agg #[.int .i64 0, .string ⟨#[]⟩, .int .i64 0, .string ⟨#[]⟩]), 4, 48) := by kernel_rfl
theorem cell_four_new (w : World) (a b c d : Value) (t : TypeId) : ∀ (j : Nat) (u : Value), [a, b, c, d][j]? = some u → (w.alloc (.cells #[a, b, c, d] t)).cell? ((⟨w.heap.size, 0, none⟩ : Addr).add j) = some u := by
  intro j u h
  match j with
  | 0 => simp at h; subst h; simp [Addr.add]
  | 1 => simp at h; subst h; simp [Addr.add]
  | 2 => simp at h; subst h; simp [Addr.add]
  | 3 => simp at h; subst h; simp [Addr.add]
  | j + 4 => simp at h
def flatT (l : List Trm) : List Value := (l.map trmC).flatten
/-- Terms in blocks of one's own. -/
def TOwn (w : World) (B : Nat) (v : Value) (l : List Trm) : Prop := w.ownsRow B 46 4 v l.length (flatT l)
theorem TOwn.row {w : World} {B : Nat} {v : Value} {l : List Trm} (h : TOwn w B v l) (h9 : l.length ≤ 1000) : TrmsAt w v l := by
  have h' : w.ownsRow B 46 4 v l.length (flatT l) := h
  exact row_own (l := l.map trmC) (by rw [List.length_map]; exact h') rfl (fun x hx => by
    obtain ⟨y, _, rfl⟩ := List.mem_map.1 hx
    rfl) (by decide) (by rw [List.length_map]; omega)
structure UT (w : World) (B g q : Nat) (V : Value) (ts : List Trm) (W : World) : Prop where
  own : TOwn W w.heap.size V ts
  tape : Tape W B g q
  only : Only (fun j => j = g) w W
  gw : g < w.heap.size
section
variable {w W W' : World} {B g q q' : Nat} {V : Value} {ts : List Trm}
theorem UT.call (h : UT w B g q V ts W) (hT : Tape W' B g q') (hO : Only (fun j => j = g) W W') : UT w B g q' V ts W' :=
  ⟨own_only (v := V) h.own hO fun j hj e => by have := (World.ownsRow.lt (v := V) h.own j hj).1; have := h.gw; omega, hT, h.only.trans hO, h.gw⟩
theorem UT.alloc (h : UT w B g q V ts W) (o : Obj) : UT w B g q V ts (W.alloc o) := h.call (h.tape.below ((Below.refl _ _).alloc (Nat.le_refl _) _)) ((Only.refl _ _).alloc _)
theorem UT.ne (h : UT w B g q V ts W) : ∀ j, V.ownBlock = some j → j ≠ W.heap.size := fun j hj => by have := (World.ownsRow.lt (v := V) h.own j hj).2; omega
theorem UT.setRow {xb : Nat} {cs : Array Value} (h : UT w B g q V ts W) (hx : w.heap.size ≤ xb) (hne : ∀ j, V.ownBlock = some j → j ≠ xb) : UT w B g q V ts (W.setRow xb cs) := by
  have hgw := h.gw
  have hOw : Only (fun j => j = xb) W (W.setRow xb cs) := Only.setRow (S := fun j => j = xb) (Only.refl _ _) (g := xb) (.inl rfl) _
  exact ⟨own_only (v := V) h.own hOw fun j hj e => hne j hj e, h.tape.only hOw (by omega) (fun j e => by have := h.tape.lt; omega), h.only.step hOw fun j e => .inr (by omega), hgw⟩
theorem ut_more {w1 : World} {v' : Value} {k o : Int} {n v : ByteArray} {ob : Obj} (h : UT w B g q V ts W) (hown' : w1.ownsRow w.heap.size 46 4 v' (ts.length + 1) (flatT ts ++ [.int .i64 k, .string n, .int .i64 o, .string v])) (hgrow : (W.alloc ob).grownBy w1 V.ownBlock) :
    UT w B g q v' (ts ++ [⟨k, n, o, v⟩]) w1 := by
  have hgw := h.gw
  have hlt := fun j hj => (World.ownsRow.lt (v := V) h.own j hj).1
  have h1 : Only (fun j => V.ownBlock = some j) W w1 := ((Only.refl _ _).alloc _).grown hgrow fun j hj => .inl hj
  refine ⟨?_, h.tape.only h1 (fun e => by have := hlt _ e; omega) (fun j e => by have := hlt _ e; have := h.tape.lt; omega), h.only.step h1 fun i e => .inr (hlt i e), hgw⟩
  have e : flatT (ts ++ [⟨k, n, o, v⟩]) = flatT ts ++ [.int .i64 k, .string n, .int .i64 o, .string v] := by simp [flatT, trmC]
  unfold TOwn
  rw [e, List.length_append]
  exact hown'
end

set_option maxRecDepth 100000 in
set_option maxHeartbeats 8000000 in
theorem zup_any (B g q0 : Nat) (w : World) (hT : Tape w B g q0) (hq0 : q0 ≤ 80000) :
    Calls Tryz.prog 8 #[.pointer (some ⟨g, 0, none⟩)] w fun e w' => ∃ (V : Value) (ts : List Trm) (q : Nat), e = .returned V ∧ TrmsAt w' V ts ∧ ts.length ≤ 3 ∧ (∀ t ∈ ts, t.v.size ≤ 100) ∧ (∀ j, V.ownBlock = some j → w.heap.size ≤ j) ∧ q ≤ q0 + 100 ∧ Tape w' B g q ∧ Only (fun j => j = g) w w' := by
  have hlt : g < w.heap.size := hT.lt.2
  obtain ⟨i0, hi0, hz0, hz1, hz2⟩ := info_parts info_term
  have hi0' := Lib.hid hi0; clear hi0
  have hz0' := Lib.hid hz0; clear hz0
  have hz1' := Lib.hid hz1; clear hz1
  have hz2' := Lib.hid hz2; clear hz2
  have hC := Lib.hid (next_any B g q0 4 w hT (by omega) (by omega) (by omega))
  clear hT
  go_enter Tryz.func8, Tryz.ntmps8
  go_wp2_with fail
  refine hC.out.mono ?_
  rintro e x0 ⟨⟨r0, hr0, rfl⟩, hTx, hOx⟩
  have hU0 : Hid (UT w B g (q0 + 1) (.slice none 0 0) [] x0) := ⟨World.ownsRow_nil _ _ _ _, hTx, hOx, hlt⟩
  clear hTx hOx hC
  go_wp2_with fail
  go_loopw [3, 4] (fun s3 s4 wr => ∃ (k q : Nat) (ts : List Trm), s4 = .int .i64 k ∧ k + ts.length ≤ 3 ∧ q + 20 * k ≤ q0 + 61 ∧ Hid (∀ t ∈ ts, t.v.size ≤ 100) ∧ Hid (UT w B g q s3 ts wr)) (fun _ s4 _ => (intOf s4).toNat)
  case atStart => exact ⟨r0, q0 + 1, [], rfl, by simp; omega, by omega, (show ∀ t ∈ ([] : List Trm), t.v.size ≤ 100 from fun t ht => by cases ht), hU0⟩
  case round =>
    clear hU0
    obtain ⟨k, q, ts, rfl, hk, hq, hsm, hU⟩ := hrel
    by_cases hk0 : 0 < k
    · have ik : (0 : Int) < (k : Int) := by omega
      have hC := mterm_any B g q wr hU.out.tape (by omega)
      unfold termV at hC
      have hC' := Lib.hid hC
      clear hC
      go_wp2_with fail
      refine hC'.out.mono ?_
      rintro e x1 ⟨tk, tn, tp, tv, q1, rfl, htv, hq1, hTx, hOx⟩
      have hU1 := Lib.hid (hU.out.call hTx hOx)
      clear hTx hOx hC' hU
      have hne := Lib.hid hU1.out.ne
      have hU2 := Lib.hid (hU1.out.alloc (.cells #[.int .i64 tk, .string tn, .int .i64 tp, .string tv] 46))
      have hX : Hid (Blk (x1.alloc (.cells #[.int .i64 tk, .string tn, .int .i64 tp, .string tv] 46)) x1.heap.size 46 #[.int .i64 tk, .string tn, .int .i64 tp, .string tv]) := Blk.new _ _ _
      have hxb : w.heap.size ≤ x1.heap.size := hU1.out.only.size
      clear hU1
      go_upto_region 6 with fail
      generalize hxe : x1.heap.size = xb at *
      generalize x1.alloc (.cells #[.int .i64 tk, .string tn, .int .i64 tp, .string tv] 46) = y1 at *
      clear hxe
      have hC := Lib.hid (next_any B g q1 3 _ hU2.out.tape (by omega) (by omega) (by omega))
      go_wp2_with fail
      refine hC.out.mono ?_
      rintro e x2 ⟨⟨r, hr, rfl⟩, hTx, hOx⟩
      have hU3 := Lib.hid (hU2.out.call hTx hOx)
      have hX3 := Lib.hid (hX.out.only hOx (by omega))
      clear hTx hOx hC hU2 hX
      go_upto_block 2 with fail
      go_cut [4] (fun s4 wx => s4 = .int .i64 k ∧ ∃ (k2 o2 : Int) (n2 v2 : ByteArray) (q2 : Nat), v2.size ≤ 100 ∧ q2 ≤ q1 + 3 ∧ Hid (UT w B g q2 u3 ts wx) ∧ Hid (Blk wx xb 46 #[.int .i64 k2, .string n2, .int .i64 o2, .string v2]))
      case first =>
        rcases (by omega : r = 0 ∨ r = 1 ∨ r = 2) with rfl | rfl | rfl
        · have hC := Lib.hid (next_any B g (q1 + 1) 2 _ hU3.out.tape (by omega) (by omega) (by omega))
          go_wp2_with fail
          refine hC.out.mono ?_
          rintro e x3 ⟨⟨r2, hr2, rfl⟩, hTx, hOx⟩
          have hU4 := Lib.hid (hU3.out.call hTx hOx)
          have hX4 := Lib.hid (hX3.out.only hOx (by omega))
          clear hTx hOx hC hU3 hX3
          have hC := Lib.hid (one_new B g (q1 + 1 + 1) 4 4 tUp1 _ hU4.out.tape (by omega) rfl (by omega) (by omega))
          go_wp2_with fail
          refine hC.out.mono ?_
          rintro e x4 ⟨⟨s, hs, rfl⟩, hTx, hOx⟩
          have hs' : s.size ≤ 100 := sml_mem (L := tUp1) rfl hs
          have hU5 := Lib.hid (hU4.out.call hTx hOx)
          have hX5 := Lib.hid (hX4.out.only hOx (by omega))
          clear hTx hOx hC hU4 hX4 hs
          have hone : (#[.int .i64 9, .string ⟨#[]⟩, .int .i64 (1 + (r2 : Int)), .string s] : Array Value).all (·.oneCell') = true := by simp [Value.oneCell']
          have hU6 : Hid (UT w B g (q1 + 1 + 1 + 1) u3 ts (x4.setRow xb #[.int .i64 9, .string ⟨#[]⟩, .int .i64 (1 + (r2 : Int)), .string s])) := hU5.out.setRow hxb hne.out
          have hX6 : Hid (Blk (x4.setRow xb #[.int .i64 9, .string ⟨#[]⟩, .int .i64 (1 + (r2 : Int)), .string s]) xb 46 #[.int .i64 9, .string ⟨#[]⟩, .int .i64 (1 + (r2 : Int)), .string s]) := hX5.out.row _
          clear hU5
          go_wp2_with (first
            | (refine wpList_store_row rfl 46 (.tmp 5) (.tmp 24) rfl xb #[.int .i64 9, .string ⟨#[]⟩, .int .i64 (1 + (r2 : Int)), .string s] rfl rfl 46 #[.int .i64 tk, .string tn, .int .i64 tp, .string tv] hX5.out (sizeTerm _ rfl) rfl hone ?_)
            | fail)
          go_meet
          case rel => exact ⟨rfl, 9, 1 + (r2 : Int), ⟨#[]⟩, s, q1 + 1 + 1 + 1, hs', by omega, hU6, hX6⟩
        · have hC := Lib.hid (next_any B g (q1 + 1) 2 _ hU3.out.tape (by omega) (by omega) (by omega))
          go_wp2_with fail
          refine hC.out.mono ?_
          rintro e x3 ⟨⟨r2, hr2, rfl⟩, hTx, hOx⟩
          have hU4 := Lib.hid (hU3.out.call hTx hOx)
          have hX4 := Lib.hid (hX3.out.only hOx (by omega))
          clear hTx hOx hC hU3 hX3
          have hC := Lib.hid (one_new B g (q1 + 1 + 1) 4 4 tUp2 _ hU4.out.tape (by omega) rfl (by omega) (by omega))
          go_wp2_with fail
          refine hC.out.mono ?_
          rintro e x4 ⟨⟨s, hs, rfl⟩, hTx, hOx⟩
          have hs' : s.size ≤ 100 := sml_mem (L := tUp2) rfl hs
          have hU5 := Lib.hid (hU4.out.call hTx hOx)
          have hX5 := Lib.hid (hX4.out.only hOx (by omega))
          clear hTx hOx hC hU4 hX4 hs
          have hone : (#[.int .i64 8, .string ⟨#[]⟩, .int .i64 (1 + (r2 : Int)), .string s] : Array Value).all (·.oneCell') = true := by simp [Value.oneCell']
          have hU6 : Hid (UT w B g (q1 + 1 + 1 + 1) u3 ts (x4.setRow xb #[.int .i64 8, .string ⟨#[]⟩, .int .i64 (1 + (r2 : Int)), .string s])) := hU5.out.setRow hxb hne.out
          have hX6 : Hid (Blk (x4.setRow xb #[.int .i64 8, .string ⟨#[]⟩, .int .i64 (1 + (r2 : Int)), .string s]) xb 46 #[.int .i64 8, .string ⟨#[]⟩, .int .i64 (1 + (r2 : Int)), .string s]) := hX5.out.row _
          clear hU5
          go_wp2_with (first
            | (refine wpList_store_row rfl 46 (.tmp 5) (.tmp 33) rfl xb #[.int .i64 8, .string ⟨#[]⟩, .int .i64 (1 + (r2 : Int)), .string s] rfl rfl 46 #[.int .i64 tk, .string tn, .int .i64 tp, .string tv] hX5.out (sizeTerm _ rfl) rfl hone ?_)
            | fail)
          go_meet
          case rel => exact ⟨rfl, 8, 1 + (r2 : Int), ⟨#[]⟩, s, q1 + 1 + 1 + 1, hs', by omega, hU6, hX6⟩
        · go_wp2_with fail
          go_meet
          case rel => exact ⟨rfl, tk, tp, tn, tv, q1 + 1, htv, by omega, hU3, hX3⟩
      case rest =>
        obtain ⟨rfl, k2, o2, n2, v2, q2, hv2, hq2, hU4, hX4⟩ := hcut
        clear hU3 hX3
        generalize wc = y4 at *
        have hsz := hU4.out.only.size
        have c0 := hX4.out.cell 0
        have c1 := hX4.out.cell 1
        have c2 := hX4.out.cell 2
        have c3 := hX4.out.cell 3
        simp only [List.getElem?_toArray, List.getElem?_cons_zero, List.getElem?_cons_succ] at c0 c1 c2 c3
        go_wp2_with (at_builtin; refine wpList_append_own _ rfl (.tmp 34) (.tmp 36) 23 rfl w.heap.size 46 i0 (.agg #[.int .i64 0, .string ⟨#[]⟩, .int .i64 0, .string ⟨#[]⟩]) 4 48 Tryz.underlying23 hi0'.out hz0'.out hz1'.out hz2'.out rfl (by decide) u3 ts.length (flatT ts) rfl (World.ownsRow.alloc (v := u3) hU4.out.own _) ⟨y4.heap.size, 0, none⟩ 1 1 [.int .i64 k2, .string n2, .int .i64 o2, .string v2] rfl rfl (cell_four_new _ _ _ _ _ _) (by intro u hu; simp at hu; rcases hu with rfl | rfl | rfl | rfl <;> rfl) (by simp only [maxLen]; omega) (by omega) (by simp; omega) ?_; intro v' w1 hown' hgrow _)
        have hF := Lib.hid (ut_more hU4.out hown' hgrow)
        have hsm2 : Hid (∀ t ∈ ts ++ [⟨k2, n2, o2, v2⟩], t.v.size ≤ 100) := fun t ht => by
          rcases List.mem_append.1 ht with ht | ht
          · exact hsm.out t ht
          · rw [List.mem_singleton.1 ht]; exact hv2
        clear hown' hgrow c0 c1 c2 c3 hU4 hX4
        go_roundw
        case rel => exact ⟨k - 1, q2, ts ++ [⟨k2, n2, o2, v2⟩], by go_num, by simp; omega, by omega, hsm2, hF⟩
        case measure => simp [intOf]; omega
    · obtain rfl : k = 0 := by omega
      go_wp2_with fail
      go_ret
      exact ⟨_, ts, q, rfl, hU.out.own.row (by omega), by omega, hsm.out, fun j hj => (World.ownsRow.lt (v := u3) hU.out.own j hj).1, by omega, hU.out.tape, hU.out.only⟩

end Go.Proofs.YtinjeijjfkkhbaaGreatDoor
