/-
  The law HelperChecks, with the tied card of its row: proved for all inputs, without conditions.
-/
import Derived.Test.YtgjnohkcnfdmkaaDoorRows
import Derived.Test.YtgjnohkcnfdmkaaDoorCards
import Derived.Test.YtgjnohkcnfdmkaaDoorTie
import Derived.Test.YtgjnohkcnfdmkaaDoorDoor
import Derived.Test.YtgjnohkcnfdmkaaDoorShut
import Derived.Test.YtgjnohkcnfdmkaaDoorHelpMut
import Derived.WalkKit
import Derived.ProofKit
import Derived.OpenShut
import Derived.ShutString
import Derived.LaidMore
import Derived.Lay
import Derived.SevenTiedAt
import Derived.Stop.Joined
import Derived.ChangeOld
import Derived.Below
import Derived.Laws.AppendOwnNone
namespace Go.Proofs.YtgjnohkcnfdmkaaDoor.helperChecks
open Go.ChangeShapes Go.WideShapes Go.ChangeAt Go.RowKit
open Go.ChangeMaps (open_string shut_string)
open Go.Proofs.YtgjnohkcnfdmkaaDoor
set_option linter.unusedVariables false

theorem own : ownKnob Tryd.prog.godebug = none := by kernel_rfl
theorem laidOut : laidOutB Tryd.prog = true := by kernel_rfl

/-- WHAT THE WALK IS TOLD OF A SLICE OF INTEGERS THAT CAME IN: it is nil; or it leads to a row of 'cap' cells, the numbers 'zs' (the first 'len' are its elements, the rest its spare room), each fitting its kind. -/
def IsRow (k : IntKind) (w : World) (a : Option Addr) (len cap : Nat) (zs : List Int) : Prop :=
  (a = none ∧ len = 0 ∧ cap = 0 ∧ zs = []) ∨
  ∃ x, a = some x ∧ len ≤ cap ∧ cap ≤ maxLen ∧ zs.length = cap ∧ (∀ i, i < zs.length → w.cell? (x.add i) = some (.int k (zs.getD i 0))) ∧ ∀ n ∈ zs, (Lit.int k n).wf = true

/-! ### STEP 1: THE WALK: the Go text returns true, AND WRITES NOTHING THAT WAS THERE: 'Below w.heap.size w w'' (Derived/Below.lean: '.refl', '.alloc', '.drew', '.setCell' at a new block, '.trans'). Open each 'IsRow' by 'rcases' AHEAD of 'go_enter'; part every test ahead of the walk. -/
theorem row_reads {w : World} {a : Option Addr} {n c : Nat} {z : List Int} (h : IsRow .i64 w a n c z) : 0 < n → ∃ x : Addr, a = some x ∧ ∀ i, i < n → ∃ z : Int, w.cell? (x.add i) = some (.int .i64 z) := by
  intro hn
  rcases h with ⟨_, h0, _⟩ | ⟨x, e, hle, _, hz, hc, _⟩
  · omega
  · exact ⟨x, e, fun i hi => ⟨_, hc i (by omega)⟩⟩

theorem four (k : Nat) (hk : k < 4) : ∃ z : Int, (#[Value.int .i64 (-1), .int .i64 0, .int .i64 1000, .int .i64 1001] : Array Value)[k]? = some (.int .i64 z) := by
  match k with
  | 0 => exact ⟨-1, rfl⟩
  | 1 => exact ⟨0, rfl⟩
  | 2 => exact ⟨1000, rfl⟩
  | 3 => exact ⟨1001, rfl⟩
  | k + 4 => omega

open Go.Proofs.YtgjnohkcnfdmkaaDoor in
set_option maxRecDepth 100000 in
set_option maxHeartbeats 8000000 in
theorem walk (a0 : Option Addr) (len0 cap0 : Nat) (l0 : List Hp) (a1 : Int) (a2 : Option Addr) (len2 cap2 : Nat) (z2 : List Int) (w : World) (w0 : RawRow w a0 len0 cap0 l0) (s0 : ∀ h ∈ l0, h.cmd.size ≤ 9223372036854775807 ∧ h.out.size ≤ 9223372036854775807) (w2 : IsRow .i64 w a2 len2 cap2 z2) (m : Int) (hm : w.cell? ⟨0, 0, none⟩ = some (.int .i64 m)) :
    Calls Tryd.prog 8 #[.slice a0 len0 cap0, .int .i64 a1, .slice a2 len2 cap2] w fun e w' => e = .returned (.bool true) ∧ Below w.heap.size w w' := by
  have hT0 := tape_new a2 len2 cap2 w (row_reads w2)
  obtain ⟨i0, hi0, hz0, hz1, hz2⟩ := info_parts info_helper
  have hi0' := Lib.hid hi0; clear hi0
  have hz0' := Lib.hid hz0; clear hz0
  have hz1' := Lib.hid hz1; clear hz1
  have hz2' := Lib.hid hz2; clear hz2
  have h0lt : 0 < w.heap.size := World.block_lt_of_cell? w _ hm
  have hK := fun W hW => hknown_any W m hW
  have hK' := Lib.hid hK; clear hK
  have hT0' := Lib.hid hT0; clear hT0 w2
  have hm' := Lib.hid hm; clear hm
  by_cases s1 : len0 ≤ 80
  · have i1 : ¬ (80 : Int) < (len0 : Int) := by omega
    have hraw := RawRow.at w0 s1
    have keep : ∀ W, Only (fun j => j = w.heap.size) w W → Below w.heap.size w W ∧ W.cell? ⟨0, 0, none⟩ = some (.int .i64 m) := fun W h =>
      ⟨h.below (fun k e => by omega) (Nat.le_refl _), (World.cell?_of_block (h.block 0 h0lt (by omega))).trans hm'.out⟩
    have hR1 := fun W (h : Below w.heap.size w W) => hcheck_any l0 (.slice a0 len0 cap0) a1 W (hraw.below h) s0
    have hR2 := fun W (h : Below w.heap.size w W) => rtable_any l0 (.slice a0 len0 cap0) a1 W (hraw.below h) s0
    generalize tableS l0 a1 = R0 at *
    have hR1' := Lib.hid hR1; clear hR1
    have hR2' := Lib.hid hR2; clear hR2 hraw w0 s0
    have keep' := Lib.hid keep; clear keep
    go_enter Tryd.func8, Tryd.ntmps8
    go_upto_if 25 with (go_at_call 10; refine (helpers_any w.heap.size w.heap.size 0 _ hT0'.out (by omega)).mono ?_; rintro e v1 ⟨l, v, lim, q, rfl, hl1, hl2, hin, hlen, hq, hown, hT1, hO1⟩; obtain ⟨p, c, rfl⟩ := hown.shape)
    have k1 := Lib.hid (((Only.refl (fun j => j = w.heap.size) w).alloc _).trans hO1)
    have hsm : Hid (Small l) := fun h hh => by have := allH_good h (hin h hh); exact ⟨this.1, this.2.1⟩
    have hown' : Hid (HOwn v1 (w.heap.size + 1) (.slice p l.length c) l) := own_mono hown (by simp)
    have hT1' := Lib.hid hT1
    clear hin hown hT1 hO1 hT0'
    go_cut [8] (fun s8 wx => ∃ (l2 : List Hp) (p2 : Option Addr) (n2 c2 : Nat), s8 = .slice p2 n2 c2 ∧ Hid (l2.length = n2) ∧ n2 ≤ 100 ∧ Hid (Small l2) ∧ Hid (HOwn wx (w.heap.size + 1) (.slice p2 n2 c2) l2) ∧ Hid (Only (fun j => j = w.heap.size) w wx))
    case first =>
      by_cases hn0 : l.length = 0
      · have i2 : ¬ (0 : Int) < (l.length : Int) := by omega
        go_wp2_with fail
        go_meet
        case rel => exact ⟨l, p, 0, c, rfl, hn0, by omega, hsm, by rw [hn0] at hown'; exact hown', k1⟩
      · obtain ⟨n, hn⟩ : ∃ n, l.length = n := ⟨_, rfl⟩
        have hln := Lib.hid hn
        rw [hn] at hown' hlen hn0 ⊢
        clear hn
        have i2 : (0 : Int) < (n : Int) := by omega
        go_wp2_with fail
        refine (next_any w.heap.size w.heap.size q n _ hT1'.out (by omega) (by omega) (by omega)).mono ?_
        rintro e v2 ⟨⟨k, hk, rfl⟩, hT2, hO2⟩
        have hw2' := Lib.hid (k1.out.trans hO2)
        have ho2' : Hid (HOwn v2 (w.heap.size + 1) (.slice p n c) l) := own_only hown'.out hO2 fun j hj e => by have := (World.ownsRow.lt hown'.out j hj).1; omega
        have hT2' := Lib.hid hT2
        clear hT2 hO2 hT1' hown' k1
        go_wp2_with fail
        refine (next_any w.heap.size w.heap.size (q + 1) 5 _ hT2'.out (by omega) (by omega) (by omega)).mono ?_
        rintro e v3 ⟨⟨sw, hsw, rfl⟩, hT3, hO3⟩
        have hw3' := Lib.hid (hw2'.out.trans hO3)
        have ho3' : Hid (HOwn v3 (w.heap.size + 1) (.slice p n c) l) := own_only ho2'.out hO3 fun j hj e => by have := (World.ownsRow.lt ho2'.out j hj).1; omega
        have hg3 : w.heap.size < v3.heap.size := hT3.lt.2
        have hT3' := Lib.hid hT3
        clear hT3 hO3 hT2' ho2' hw2'
        obtain ⟨x, hx⟩ : ∃ x, l[k]? = some x := ⟨_, List.getElem?_eq_getElem (by have := hln.out; omega)⟩
        obtain ⟨g, rfl, hg, _⟩ := HOwn.cells ho3'.out hx
        have ik : (k : Int) < (n : Int) := by omega
        have ik0 : (0 : Int) ≤ (k : Int) := by omega
        obtain rfl | rfl | rfl | rfl | rfl : sw = 0 ∨ sw = 1 ∨ sw = 2 ∨ sw = 3 ∨ sw = 4 := by omega
        ·
          go_wp2_with fail
          refine (one_tape w.heap.size w.heap.size (q + 1 + 1) v3.heap.size 3 _ [⟨#[91]⟩, ⟨#[111, 107]⟩, ⟨#[1]⟩] _ (hT3'.out.below ((Below.refl _ _).alloc (Nat.le_refl _) _)) (by omega) (by omega) (by omega) (by omega) (by simp) rfl (fun i s hs => by
            refine ((Blk.new v3 9 (([⟨#[91]⟩, ⟨#[111, 107]⟩, ⟨#[1]⟩] : List ByteArray).map Value.string).toArray).cell i).trans ?_
            rw [List.getElem?_toArray, List.getElem?_map, hs]; rfl)).mono ?_
          rintro e v4 ⟨⟨s, hs, rfl⟩, hT4, hO4⟩
          have hss : s.size ≤ 100 := (show ∀ s ∈ ([⟨#[91]⟩, ⟨#[111, 107]⟩, ⟨#[1]⟩] : List ByteArray), s.size ≤ 100 by decide) s hs
          have ho4 : HOwn v4 (w.heap.size + 1) (.slice (some ⟨g, 0, none⟩) n c) l := own_only (World.ownsRow.alloc ho3'.out _) hO4 fun j hj e => by have := (World.ownsRow.lt ho3'.out j hj).1; omega
          have hw4 := Lib.hid ((hw3'.out.alloc (.cells (([⟨#[91]⟩, ⟨#[111, 107]⟩, ⟨#[1]⟩] : List ByteArray).map Value.string).toArray 9)).trans hO4)
          obtain ⟨g', e', _, c0, c1, c2, c3⟩ := HOwn.cells ho4 hx
          cases e'
          have f0 := HOwn.frozen ho4 hln.out (k * 4)
          have ho4' := Lib.hid ho4
          clear hT4 hO4 ho4 hs c2
          go_wp2_with fail
          go_meet
          case rel =>
            refine ⟨l.set k ⟨s, x.out, x.fails, x.ticks⟩, some ⟨g, 0, none⟩, n, c, rfl, ?_, by omega, ?_, ?_, ?_⟩
            · show (l.set k _).length = n
              rw [List.length_set]; exact hln.out
            · exact Small.set hsm.out (by have := hsm.out x (List.mem_of_getElem? hx); exact ⟨by first | exact hss | exact this.1, by first | exact hss | exact this.2⟩)
            · exact HOwn.set ho4'.out hln.out (List.length_set ..) (flatH_set0 l k x s hx)
            · exact HOwn.only_set ho4'.out hw4.out (Nat.le_succ _)
        ·
          go_wp2_with fail
          refine (one_tape w.heap.size w.heap.size (q + 1 + 1) v3.heap.size 2 _ [⟨#[10]⟩, ⟨#[111, 107]⟩] _ (hT3'.out.below ((Below.refl _ _).alloc (Nat.le_refl _) _)) (by omega) (by omega) (by omega) (by omega) (by simp) rfl (fun i s hs => by
            refine ((Blk.new v3 9 (([⟨#[10]⟩, ⟨#[111, 107]⟩] : List ByteArray).map Value.string).toArray).cell i).trans ?_
            rw [List.getElem?_toArray, List.getElem?_map, hs]; rfl)).mono ?_
          rintro e v4 ⟨⟨s, hs, rfl⟩, hT4, hO4⟩
          have hss : s.size ≤ 100 := (show ∀ s ∈ ([⟨#[10]⟩, ⟨#[111, 107]⟩] : List ByteArray), s.size ≤ 100 by decide) s hs
          have ho4 : HOwn v4 (w.heap.size + 1) (.slice (some ⟨g, 0, none⟩) n c) l := own_only (World.ownsRow.alloc ho3'.out _) hO4 fun j hj e => by have := (World.ownsRow.lt ho3'.out j hj).1; omega
          have hw4 := Lib.hid ((hw3'.out.alloc (.cells (([⟨#[10]⟩, ⟨#[111, 107]⟩] : List ByteArray).map Value.string).toArray 9)).trans hO4)
          obtain ⟨g', e', _, c0, c1, c2, c3⟩ := HOwn.cells ho4 hx
          cases e'
          have f0 := HOwn.frozen ho4 hln.out (k * 4 + 1)
          have ho4' := Lib.hid ho4
          clear hT4 hO4 ho4 hs c2
          go_wp2_with fail
          go_meet
          case rel =>
            refine ⟨l.set k ⟨x.cmd, s, x.fails, x.ticks⟩, some ⟨g, 0, none⟩, n, c, rfl, ?_, by omega, ?_, ?_, ?_⟩
            · show (l.set k _).length = n
              rw [List.length_set]; exact hln.out
            · exact Small.set hsm.out (by have := hsm.out x (List.mem_of_getElem? hx); exact ⟨by first | exact hss | exact this.1, by first | exact hss | exact this.2⟩)
            · exact HOwn.set ho4'.out hln.out (List.length_set ..) (flatH_set1 l k x s hx)
            · exact HOwn.only_set ho4'.out hw4.out (Nat.le_succ _)
        · go_wp2_with fail
          refine (next_any w.heap.size w.heap.size (q + 1 + 1) 4 _ (hT3'.out.below ((Below.refl _ _).alloc (Nat.le_refl _) _)) (by omega) (by omega) (by omega)).mono ?_
          rintro e v4 ⟨⟨r, hr, rfl⟩, hT4, hO4⟩
          obtain ⟨z, hz⟩ := four r hr
          have hBz := (Blk.new v3 3 #[.int .i64 (-1), .int .i64 0, .int .i64 1000, .int .i64 1001]).only hO4 (by omega)
          have cz := (hBz.cell r).trans hz
          have ho4 : HOwn v4 (w.heap.size + 1) (.slice (some ⟨g, 0, none⟩) n c) l := own_only (World.ownsRow.alloc ho3'.out _) hO4 fun j hj e => by have := (World.ownsRow.lt ho3'.out j hj).1; omega
          have hw4 := Lib.hid ((hw3'.out.alloc (.cells #[.int .i64 (-1), .int .i64 0, .int .i64 1000, .int .i64 1001] 3)).trans hO4)
          obtain ⟨g', e', _, c0, c1, c2, c3⟩ := HOwn.cells ho4 hx
          cases e'
          have f0 := HOwn.frozen ho4 hln.out (k * 4 + 3)
          have ho4' := Lib.hid ho4
          have ir : (r : Int) < 4 := by omega
          have ir0 : (0 : Int) ≤ (r : Int) := by omega
          clear hT4 hO4 ho4 hz hBz c0 c1 c2
          go_wp2_with fail
          go_meet
          case rel =>
            refine ⟨l.set k ⟨x.cmd, x.out, x.fails, z⟩, some ⟨g, 0, none⟩, n, c, rfl, ?_, by omega, ?_, ?_, ?_⟩
            · show (l.set k _).length = n
              rw [List.length_set]; exact hln.out
            · exact Small.set hsm.out (hsm.out x (List.mem_of_getElem? hx))
            · exact HOwn.set ho4'.out hln.out (List.length_set ..) (flatH_set3 l k x z hx)
            · exact HOwn.only_set ho4'.out hw4.out (Nat.le_succ _)
        · go_wp2_with fail
          go_loopw [8] (fun s8 wx => ∃ (l3 : List Hp) (p3 : Option Addr) (n3 c3 q3 : Nat), s8 = .slice p3 n3 c3 ∧ Hid (l3.length = n3) ∧ 1 ≤ n3 ∧ n3 ≤ 70 ∧ q3 ≤ q + 2 + n3 ∧ Hid (Small l3) ∧ Hid (HOwn wx (w.heap.size + 1) (.slice p3 n3 c3) l3) ∧ Hid (Tape wx w.heap.size w.heap.size q3) ∧ Hid (Only (fun j => j = w.heap.size) w wx)) (fun s8 _ => 71 - lenV s8)
          case atStart => exact ⟨l, _, n, c, q + 1 + 1, rfl, hln, by omega, by omega, by omega, hsm, ho3', hT3', hw3'⟩
          case round =>
            obtain ⟨l3, p3, n3, c3, q3, rfl, hl3, hn31, hn37, hq3, hs3, ho3, ht3, hw3⟩ := hrel
            clear hsm hln ho3' hT3' hw3' hx
            go_wp2_with fail
            refine (next_any w.heap.size w.heap.size q3 2 _ ht3.out (by omega) (by omega) (by omega)).mono ?_
            rintro e v4 ⟨⟨r, hr, rfl⟩, hT4, hO4⟩
            have ho4 : HOwn v4 (w.heap.size + 1) (.slice p3 n3 c3) l3 := own_only ho3.out hO4 fun j hj e => by have := (World.ownsRow.lt ho3.out j hj).1; omega
            have hw4 := Lib.hid (hw3.out.trans hO4)
            have ht4 := Lib.hid hT4
            have hg4 : w.heap.size + 1 ≤ v4.heap.size := hT4.lt.2
            have ho4' := Lib.hid ho4
            clear hT4 hO4 ht3 ho3 hw3
            by_cases hlt : (n3 : Int) < 64 + (r : Int)
            · obtain ⟨x3, hx3⟩ : ∃ x, l3[0]? = some x := ⟨_, List.getElem?_eq_getElem (by have := hl3.out; omega)⟩
              obtain ⟨g3, rfl, hg3', c0, c1, c2, c3'⟩ := HOwn.cells ho4 hx3
              have hmem3 := Lib.hid (List.mem_of_getElem? hx3)
              simp only [Nat.zero_mul, Nat.zero_add] at c0 c1 c2 c3'
              obtain ⟨cm, ou, fa, ti⟩ := x3
              simp only at c0 c1 c2 c3'
              have in0 : (0 : Int) < (n3 : Int) := by omega
              have hlenE := hl3.out
              have hownE := ho4'.out
              unfold HOwn at hownE
              rw [hlenE] at hownE
              have hownE' := Lib.hid hownE
              clear ho4 hx3 hlenE hownE
              go_wp2_with (at_builtin; refine wpList_append_own _ rfl (.tmp 69) (.tmp 73) 27 rfl (w.heap.size + 1) 40 i0 (.agg #[.string ⟨#[]⟩, .string ⟨#[]⟩, .bool false, .int .i64 0]) 4 48 Tryd.underlying27 hi0'.out hz0'.out hz1'.out hz2'.out rfl (by decide) (.slice (some ⟨g3, 0, none⟩) n3 c3) n3 (flatH l3) rfl (World.ownsRow.alloc hownE'.out _) ⟨v4.heap.size, 0, none⟩ 1 1 [.string cm, .string ou, .bool fa, .int .i64 ti] rfl rfl (cell_four_new _ _ _ _ _ _) (by intro u hu; simp at hu; rcases hu with rfl | rfl | rfl | rfl <;> rfl) (by simp only [maxLen]; omega) (by omega) (by simp; omega) ?_; intro v' w1 hown1 hgrow _)
              have hl5 : (l3 ++ [(⟨cm, ou, fa, ti⟩ : Hp)]).length = n3 + 1 := by rw [List.length_append]; have := hl3.out; simp; omega
              have hown5 : HOwn w1 (w.heap.size + 1) v' (l3 ++ [⟨cm, ou, fa, ti⟩]) := by
                unfold HOwn
                rw [flatH_app, hl5]
                exact hown1
              obtain ⟨p5, c5, rfl⟩ := hown5.shape
              rw [hl5] at hown5 ⊢
              have hown5' := Lib.hid hown5
              have hne : ∀ j, (Value.slice (some ⟨g3, 0, none⟩) n3 c3).ownBlock = some j → w.heap.size + 1 ≤ j := fun j hj => (World.ownsRow.lt hownE'.out j hj).1
              have hw5 : Hid (Only (fun j => j = w.heap.size) w w1) := (hw4.out.alloc (.cells #[.string cm, .string ou, .bool fa, .int .i64 ti] 40)).grown hgrow fun j hj => .inr (by have := hne j hj; omega)
              have hS : Only (fun j => (Value.slice (some ⟨g3, 0, none⟩) n3 c3).ownBlock = some j ∨ v4.heap.size ≤ j) v4 w1 := ((Only.refl _ _).alloc (.cells #[.string cm, .string ou, .bool fa, .int .i64 ti] 40)).grown hgrow fun j hj => .inl (.inl hj)
              have ht5 : Hid (Tape w1 w.heap.size w.heap.size (q3 + 1)) := ht4.out.only hS (fun e => by
                rcases e with e | e
                · have := hne _ e; omega
                · omega) (fun j hj => by
                rcases hj with e | e
                · have := hne _ e; omega
                · omega)
              have hs5 := Lib.hid (Small.app hs3.out hmem3.out)
              clear hown1 hgrow hown5 hS c0 c1 c2 c3'
              go_roundw
              case rel => exact ⟨_, p5, n3 + 1, c5, q3 + 1, rfl, hl5, by omega, by omega, by omega, hs5, hown5', ht5, hw5⟩
              case measure => simp [lenV]; omega
            · clear ho4
              go_wp2_with fail
              go_meet
              case rel => exact ⟨l3, p3, n3, c3, rfl, hl3, by omega, hs3, ho4', hw4⟩
        · go_wp2_with fail
          go_meet
          case rel => exact ⟨l, _, n, c, rfl, hln, by omega, hsm, ho3', hw3'⟩
    case rest =>
      obtain ⟨l2, p2, n2, c2, rfl, hln, hn2, hs2, ho2, hw2⟩ := hcut
      clear k1 hsm hown' hT1'
      have hk2 := Lib.hid (keep'.out _ hw2.out)
      have hat : ∀ W, Below wc.heap.size wc W → HelpersAt W (.slice p2 n2 c2) l2 := fun W h => (HOwn.at ho2.out (by have := hln.out; omega)).below h
      have hA1 := fun (li : Int) W h => hcheck_any l2 (.slice p2 n2 c2) li W (hat W h) hs2.out.big
      have hA2 := fun (li : Int) W h => rtable_any l2 (.slice p2 n2 c2) li W (hat W h) hs2.out.big
      have hA1' := Lib.hid hA1; clear hA1
      have hA2' := Lib.hid hA2; clear hA2 hat ho2 hs2 hln hw2
      have hk0 := Lib.hid hk2.out.1
      go_wp2_with fail
      refine (hR1'.out _ hk0.out).mono ?_
      rintro e y1 ⟨rfl, hy1⟩
      have hk1 := Lib.hid (hk0.out.trans (hy1.mono hk0.out.size))
      have hx1 := Lib.hid hy1; clear hy1
      go_wp2_with fail
      refine (hR2'.out _ hk1.out).mono ?_
      rintro e y2 ⟨rfl, hy2⟩
      have hx2 := Lib.hid (hx1.out.trans (hy2.mono hx1.out.size)); clear hy2
      go_wp2_with fail
      refine (hA1'.out _ _ hx2.out).mono ?_
      rintro e y3 ⟨rfl, hy3⟩
      have hx3 := Lib.hid (hx2.out.trans (hy3.mono hx2.out.size)); clear hy3
      go_wp2_with fail
      refine (hA2'.out _ _ hx3.out).mono ?_
      rintro e y4 ⟨rfl, hy4⟩
      have hx4 := Lib.hid (hx3.out.trans (hy4.mono hx3.out.size)); clear hy4
      go_wp2_with fail
      refine (hA1'.out _ _ hx4.out).mono ?_
      rintro e y5 ⟨rfl, hy5⟩
      have hx5 := Lib.hid (hx4.out.trans (hy5.mono hx4.out.size)); clear hy5
      go_wp2_with fail
      refine (hA2'.out _ _ hx5.out).mono ?_
      rintro e y6 ⟨rfl, hy6⟩
      have hx6 := Lib.hid (hx5.out.trans (hy6.mono hx5.out.size)); clear hy6
      have hk6 := Lib.hid (hk0.out.trans (hx6.out.mono hk0.out.size))
      have m6 := Lib.hid ((World.cell?_of_block (hk6.out.block 0 h0lt)).trans hm'.out)
      go_wp2_with fail
      refine (hK'.out _ m6.out).mono ?_
      rintro e y7 ⟨rfl, hy7⟩
      have hk7 := Lib.hid (hk6.out.trans (hy7.mono hk6.out.size)); clear hy7
      go_wp2_with fail
      go_ret
      exact ⟨rfl, hk7.out⟩
  · have i1 : (80 : Int) < (len0 : Int) := by omega
    go_enter Tryd.func8, Tryd.ntmps8
    go_wp2_with fail
    refine (hK'.out _ hm'.out).mono ?_
    rintro e v1 ⟨rfl, hb1⟩
    have k1' := Lib.hid hb1; clear hb1
    go_wp2_with fail
    go_ret
    exact ⟨rfl, k1'.out⟩

/-! ### THE ROW's STEP: WRITTEN OUT: LEAVE IT -/
set_option maxRecDepth 100000 in
theorem lifted (os : Os) (started : os.Started) (H : Type) (enc : TypeId × Value → H) :
    ReturnsInHanded {} Tryd.checked os 8 .any (fun w args => (Rows.helperChecksSpec.pre enc Tryd.prog Tryd.f8 Rows.helperChecksRow.domain false w args ∧ laidMetH Tryd.prog Rows.helperChecksRow.laid w) ∧ sizedMet enc Tryd.prog Tryd.f8 (OpenSpec.ofChange Rows.helperChecksSpec) false w args) (Rows.helperChecksSpec.post enc Tryd.prog Tryd.f8 false true false false) := by
  refine handed_and_shaped (C := Tryd.checked) (X := fun w _ => laidMetH Tryd.prog Rows.helperChecksRow.laid w) (fun _ _ _ hh h => h.of_heap hh) own started (by kernel_rfl) Tryd.func8
    (ChangeSpec.witness_shaped (enc := enc) (C := Tryd.checked) (os := os) (X := fun w _ => laidMetH Tryd.prog Rows.helperChecksRow.laid w) false (World.laidAll Tryd.prog os Rows.helperChecksRow.laid) #[.slice none 0 0, .int .i64 0, .slice none 0 0] 8 (World.laidAll_os _ _ _)
      (World.shaped_of_ZipB (by kernel_rfl) (by kernel_rfl)) (by kernel_rfl) (by kernel_rfl) (by kernel_rfl)
      (by rw [MakeChecks.laidMetH_plain _ _ _ (by kernel_rfl)]; exact laidMet_laidAll _ (by kernel_rfl) (by kernel_rfl))) ?_
  intro W base args ds gs before hval0 hW hcnd hsh _
  have hval : ∀ (j : Nat) t v, Tryd.f8.params[j]? = some t → args[j]? = some v → Value.okWide Tryd.prog W .any base t v := hval0
  have hW' := hW
  obtain ⟨p, q, hA0, hV, rfl, hfz, hnd⟩ := hW
  have hA : DataW.TrodAll enc Tryd.prog W 0 (fun _ => true) true Tryd.f8.params.toList args.toList ds p := hA0
  rw [Tryd.params8] at hA hval
  obtain ⟨v0, vs0, d0, ds0, p0, q0, hargs, rfl, rfl, h0, r0⟩ := trodAll_cons hA
  obtain ⟨v1, vs1, d1, ds1, p1, q1, rfl, rfl, rfl, h1, r1⟩ := trodAll_cons r0
  obtain ⟨v2, vs2, d2, ds2, p2, q2, rfl, rfl, rfl, h2, r2⟩ := trodAll_cons r1
  obtain ⟨rfl, rfl, rfl⟩ := trodAll_nil r2
  obtain rfl : args = #[v0, v1, v2] := by cases args; simp_all
  obtain ⟨rfl, rfl⟩ := trodVars_none hV
  obtain ⟨a0, len0, cap0, rfl⟩ := okWide_slice Tryd.underlying27 (hval 0 27 v0 rfl rfl)
  have k0 := h0
  have lt0 : ∀ x ∈ p0, x.block < W.heap.size := by obtain ⟨m, hm⟩ := k0; exact DataW.trod_lt m _ _ _ hm
  obtain ⟨l0, w0, s0⟩ : ∃ l, RawRow W a0 len0 cap0 l ∧ ∀ h ∈ l, h.cmd.size ≤ maxLen ∧ h.out.size ≤ maxLen := by
    obtain ⟨fuel, hf⟩ := h0
    exact open_raw (hval 0 27 _ rfl rfl) hf
  obtain ⟨a1, rfl, rfl, rfl, w1⟩ := open_int Tryd.underlying3 (hval 1 3 v1 rfl rfl) h1
  obtain ⟨a2, len2, cap2, rfl⟩ := okWide_slice Tryd.underlying22 (hval 2 22 v2 rfl rfl)
  have k2 := h2
  have lt2 : ∀ x ∈ p2, x.block < W.heap.size := by obtain ⟨m, hm⟩ := k2; exact DataW.trod_lt m _ _ _ hm
  obtain ⟨z2, w2⟩ : ∃ zs, IsRow .i64 W a2 len2 cap2 zs := by
    obtain ⟨fuel, hf⟩ := h2
    rcases open_ints Tryd.underlying22 Tryd.underlying3 (by kernel_rfl) hf with ⟨hcs, _⟩ | ⟨x, l, c, zs, hcs, _, hl, hm, hz, _, hcell, hwz⟩
    · simp [Value.cells] at hcs
      obtain ⟨rfl, rfl, rfl⟩ := hcs
      exact ⟨[], .inl ⟨rfl, rfl, rfl, rfl⟩⟩
    · simp [Value.cells] at hcs
      obtain ⟨rfl, rfl, rfl⟩ := hcs
      exact ⟨zs, .inr ⟨_, rfl, hl, hm, by simpa using hz, hcell, hwz⟩⟩
  clear hA0 hval0
  obtain ⟨m, hm⟩ := Tryd.laysM143.s1_3 W hsh
  refine (walk a0 len0 cap0 l0 a1 a2 len2 cap2 z2 W w0 s0 w2 m hm).mono fun e W' ⟨he, bel⟩ => ?_
  subst he
  exact ⟨_, rfl, _, _, _, [], _, [], hW', trodAll_mk1 (shut_bool Tryd.underlying4 _), (trodAll_cons_mk (Below.trod laidOut (by kernel_rfl) (of_decide_eq_true (by kernel_rfl)) k0 bel lt0) (trodAll_cons_mk (shut_int Tryd.underlying3 w1) (trodAll_cons_mk (Below.trod laidOut (by kernel_rfl) (of_decide_eq_true (by kernel_rfl)) k2 bel lt2) trodAll_mk0))), rfl, bel.frame _, fun h => by cases h⟩

theorem over : Rows.helperChecksRow.holds Tryd.pinned (OpenSpec.ofChange Rows.helperChecksSpec) :=
  OpenClaim.holds_of_wide 8 Tryd.f8 rfl rfl rfl rfl rfl rfl rfl ⟨rfl, rfl, rfl, rfl, rfl⟩ rfl rfl rfl rfl rfl (by kernel_rfl) Tryd.func8 (by kernel_rfl)
    (of_decide_eq_true (by kernel_rfl)) (by unfold Func.isWrapper; first | (rw [if_pos (by decide +kernel)]; kernel_rfl) | (rw [if_neg (by decide +kernel)]; exact ⟨rfl, rfl⟩))
    (fun os started H enc _ => lifted os started H enc)

/-- ████ THE STATEMENT: THE TIED CARD ████ -/
theorem proved : Rows.HelperChecksCardSaid :=
  Claim7.holds_tied_plain_at .later [] [.data, .pinned] true (true, "976c7b5ca0a6e0b7ae283dd8bbc166f4b8d42aca6b552a348e227aea158a716c") false over (fun _ h => by cases h) (by kernel_rfl) (fun _ h => by cases h) helperChecks_row_tie rfl ⟨rfl, rfl⟩ (by kernel_rfl) rfl
    (fun f fn hf hfn => by
      obtain rfl : f = 8 := Option.some.inj ((show Tryd.prog.funcNamed "coldplug/coldpluglaw14.HelperChecks" = some 8 by kernel_rfl).symm.trans hf) |>.symm
      obtain rfl : fn = Tryd.f8 := (Option.some.inj (Tryd.func8.symm.trans hfn)).symm
      exact ⟨by kernel_rfl, fun j t ht => by
        rw [Tryd.params8] at ht
        have hm : t ∈ [27, 3, 22] := by
          have := Array.mem_of_getElem? ht
          simp at this ⊢
          exact this
        have hall : ([27, 3, 22].all fun u => !Tryd.prog.wantsStandIn u) = true := by kernel_rfl
        exact (show Tryd.prog.wantsStandIn t = false by simpa using List.all_eq_true.1 hall t hm)⟩)
    (by kernel_rfl)
#print axioms proved
end Go.Proofs.YtgjnohkcnfdmkaaDoor.helperChecks
