/-
  THE WALKS of coldplugmake's Tape: Fold, Next, One.
-/
import Derived.Test.YtinjeijjfkkhbaaGreatDoorGlobMem
namespace Go.Proofs.YtinjeijjfkkhbaaGreatDoor
open Go.RowKit

/-- The tape's struct in block g, its list anywhere else. -/
def Tape (w : World) (B g k : Nat) : Prop :=
  B ≤ g ∧ ∃ (p : Option Addr) (n c : Nat), Blk w g 27 #[.slice p n c, .int .i64 k] ∧
    (0 < n → ∃ x : Addr, p = some x ∧ x.block < B ∧ ∀ i, i < n → ∃ z : Int, w.cell? (x.add i) = some (.int .i64 z))
theorem add_block (x : Addr) (i : Nat) : (x.add i).block = x.block := by
  unfold Addr.add
  split <;> rfl
theorem Tape.lt {w : World} {B g k : Nat} (h : Tape w B g k) : B ≤ g ∧ g < w.heap.size := by
  obtain ⟨hBg, _, _, _, hB, _⟩ := h
  exact ⟨hBg, hB.lt⟩
theorem Tape.only {S : Nat → Prop} {w w' : World} {B g k : Nat} (h : Tape w B g k) (ho : Only S w w') (hg : ¬ S g) (hS : ∀ j, S j → B ≤ j) : Tape w' B g k := by
  have hl := h.lt
  obtain ⟨hBg, p, n, c, hB, hL⟩ := h
  refine ⟨hBg, p, n, c, hB.only ho hg, fun hn => ?_⟩
  obtain ⟨x, e, hlt, hz⟩ := hL hn
  refine ⟨x, e, hlt, fun i hi => ?_⟩
  obtain ⟨z, hz⟩ := hz i hi
  exact ⟨z, (World.cell?_of_block (by rw [add_block]; exact ho.block x.block (by omega) fun hs => by have := hS _ hs; omega)).trans hz⟩
theorem Tape.below {w w' : World} {B g k : Nat} (h : Tape w B g k) (hb : Below w.heap.size w w') : Tape w' B g k :=
  h.only (S := fun j => w.heap.size ≤ j) (Only.of_below hb fun _ h _ => h) (by have := h.lt; omega) (fun _ hj => by have := h.lt; omega)

theorem fold_any (v : Int) (n : Nat) (hn : 1 ≤ n) (hn2 : n ≤ 1000000) (w : World) :
    Calls Tryz.prog 38 #[.int .i64 v, .int .i64 n] w fun e w' => (∃ k : Nat, k < n ∧ e = .returned (.int .i64 k)) ∧ w' = w := by
  by_cases h1 : n = 1
  · subst h1
    go_enter Tryz.func38, Tryz.ntmps38
    go_wp2_with fail
    go_ret
    exact ⟨⟨0, by omega, rfl⟩, rfl⟩
  · have i1 : ¬ (n : Int) ≤ 1 := by omega
    have i2 : ¬ (n : Int) = 0 := by omega
    have b1 : v.tmod n < n := by
      have := Int.tmod_lt_of_pos v (show (0 : Int) < n by omega)
      exact this
    have b2 : -(n : Int) < v.tmod n := by
      have := Int.lt_tmod_of_pos v (show (0 : Int) < n by omega)
      omega
    by_cases h2 : v.tmod n < 0
    · obtain ⟨r, hr⟩ : ∃ r : Nat, v.tmod n + n = r := ⟨(v.tmod n + n).toNat, by omega⟩
      go_enter Tryz.func38, Tryz.ntmps38
      go_wp2_with fail
      go_ret
      exact ⟨⟨r, by omega, rfl⟩, rfl⟩
    · obtain ⟨r, hr⟩ : ∃ r : Nat, v.tmod n = r := ⟨(v.tmod n).toNat, by omega⟩
      go_enter Tryz.func38, Tryz.ntmps38
      go_wp2_with fail
      go_ret
      exact ⟨⟨r, by omega, rfl⟩, rfl⟩

theorem tape_set {w w' : World} {B g k : Nat} {p : Option Addr} {n c : Nat} (hBg : B ≤ g) (hB : Blk w g 27 #[.slice p n c, .int .i64 k])
    (hL : 0 < n → ∃ x : Addr, p = some x ∧ x.block < B ∧ ∀ i, i < n → ∃ z : Int, w.cell? (x.add i) = some (.int .i64 z)) (nd : Nat)
    (hw0 : w' = (w.drewN nd).setCell ⟨g, 1, none⟩ (.int .i64 ((k : Int) + 1))) : Tape w' B g (k + 1) ∧ Only (fun j => j = g) w w' := by
  have hw : w' = (w.setCell ⟨g, 1, none⟩ (.int .i64 ((k + 1 : Nat) : Int))).drewN nd := hw0
  subst hw
  refine ⟨⟨hBg, p, n, c, ?_, fun hn => ?_⟩, (Only.setCell (S := fun j => j = g) (Only.refl _ _) (p := ⟨g, 1, none⟩) (.inl rfl) _).drewN nd⟩
  · exact (hB.store 1 (.int .i64 ((k + 1 : Nat) : Int))).drewN nd
  · obtain ⟨x, e, hlt, hz⟩ := hL hn
    refine ⟨x, e, hlt, fun i hi => ?_⟩
    obtain ⟨z, hz⟩ := hz i hi
    refine ⟨z, ?_⟩
    have : (w.setCell ⟨g, 1, none⟩ (.int .i64 ((k + 1 : Nat) : Int))).cell? (x.add i) = w.cell? (x.add i) := World.cell?_setCell_other _ _ _ _ (fun e => by have h2 : g = (x.add i).block := congrArg Addr.block e; rw [add_block] at h2; omega)
    exact this.trans hz

set_option maxHeartbeats 1000000 in
theorem next_any (B g k n : Nat) (w : World) (hT : Tape w B g k) (hk : k ≤ 1000000) (hn : 1 ≤ n) (hn2 : n ≤ 1000000) :
    Calls Tryz.prog 16 #[.pointer (some ⟨g, 0, none⟩), .int .i64 n] w fun e w' => (∃ r : Nat, r < n ∧ e = .returned (.int .i64 r)) ∧ Tape w' B g (k + 1) ∧ Only (fun j => j = g) w w' := by
  obtain ⟨hBg, p, N, c, hB, hL⟩ := hT
  have c0 := hB.cell 0
  have c1 := hB.cell 1
  have f1 := hB.frozen 1
  simp only [List.getElem?_toArray, List.getElem?_cons_zero, List.getElem?_cons_succ] at c0 c1
  have hF := fun v W => fold_any v n hn hn2 W
  have hF' := Lib.hid hF; clear hF
  have hL' := Lib.hid hL
  have hB' := Lib.hid hB; clear hB
  by_cases hkN : k < N
  · obtain ⟨x, rfl, hlt, hz⟩ := hL (by omega)
    obtain ⟨z, hz⟩ := hz k hkN
    clear hL
    have i0 : (k : Int) < (N : Int) := by omega
    have i1 : (0 : Int) ≤ (k : Int) := by omega
    go_enter Tryz.func16, Tryz.ntmps16
    go_wp2_with fail
    go_quiet (fail)
    go_wp2_with fail
    go_quiet (fail)
    go_wp2_with fail
    refine (hF'.out _ _).mono ?_
    rintro e v1 ⟨⟨r, hr, rfl⟩, hv⟩
    obtain ⟨hT, hO⟩ := tape_set hBg hB'.out hL'.out _ hv
    have hT' := Lib.hid hT; clear hT
    have hO' := Lib.hid hO; clear hO hv
    go_wp2_with fail
    go_ret
    exact ⟨⟨r, hr, rfl⟩, hT'.out, hO'.out⟩
  · have i0 : ¬ (k : Int) < (N : Int) := by omega
    clear hL
    go_enter Tryz.func16, Tryz.ntmps16
    go_wp2_with fail
    go_quiet (fail)
    go_wp2_with fail
    refine (hF'.out _ _).mono ?_
    rintro e v1 ⟨⟨r, hr, rfl⟩, hv⟩
    obtain ⟨hT, hO⟩ := tape_set hBg hB'.out hL'.out _ hv
    have hT' := Lib.hid hT; clear hT
    have hO' := Lib.hid hO; clear hO hv
    go_wp2_with fail
    go_ret
    exact ⟨⟨r, hr, rfl⟩, hT'.out, hO'.out⟩

theorem one_tape (B g k b n c : Nat) (L : List ByteArray) (w : World) (hT : Tape w B g k) (hk : k ≤ 1000000) (hn : 1 ≤ n) (hn2 : n ≤ 1000000) (hb : b ≠ g) (hlt : b < w.heap.size) (hlen : L.length = n)
    (hL : ∀ (i : Nat) (s : ByteArray), L[i]? = some s → w.cell? ⟨b, i, none⟩ = some (.string s)) :
    Calls Tryz.prog 20 #[.pointer (some ⟨g, 0, none⟩), .slice (some ⟨b, 0, none⟩) n c] w fun e w' => (∃ s, s ∈ L ∧ e = .returned (.string s)) ∧ Tape w' B g (k + 1) ∧ Only (fun j => j = g) w w' := by
  have hN := next_any B g k n w hT hk hn hn2
  have hN' := Lib.hid hN; clear hN
  have hL' := Lib.hid hL; clear hL
  have hlen' := Lib.hid hlen; clear hlen hT
  have i0 : ¬ (n : Int) = 0 := by omega
  go_enter Tryz.func20, Tryz.ntmps20
  go_wp2_with fail
  refine hN'.out.mono ?_
  rintro e v1 ⟨⟨r, hr, rfl⟩, hT, hO⟩
  obtain ⟨s, hs⟩ : ∃ s, L[r]? = some s := ⟨_, List.getElem?_eq_getElem (by have := hlen'.out; omega)⟩
  have c0 : v1.cell? ⟨b, r, none⟩ = some (.string s) := (World.cell?_of_block (hO.block b hlt hb)).trans (hL'.out r s hs)
  have hmem := Lib.hid (List.mem_of_getElem? hs); clear hs
  have hT' := Lib.hid hT; clear hT
  have hO' := Lib.hid hO; clear hO
  have i1 : (r : Int) < (n : Int) := by omega
  have i2 : (0 : Int) ≤ (r : Int) := by omega
  go_wp2_with fail
  go_ret
  exact ⟨⟨s, hmem.out, rfl⟩, hT'.out, hO'.out⟩

end Go.Proofs.YtinjeijjfkkhbaaGreatDoor
