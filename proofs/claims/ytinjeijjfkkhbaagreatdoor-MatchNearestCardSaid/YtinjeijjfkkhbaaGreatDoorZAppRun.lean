/-
  append OF DEVICES, as a result: what a row of the call's own becomes. No law of the program.
-/
import Derived.Test.YtinjeijjfkkhbaaGreatDoorZChain
namespace Go.Proofs.YtinjeijjfkkhbaaGreatDoor
open Go Go.RowKit

theorem app_devs_run {w : World} (B : Nat) (p : Option Addr) (n cp : Nat) (L : List Dev) (ad : Option Addr) (m c : Nat) (l : List Dev) (hm : l.length = m) (hown : OwnV w B p n cp L) (hV : RowAt w (.slice ad m c) 10 (l.map devC)) (N : Nat) (hN : n + m = N) (hn : N ≤ 1000000) (hbase : B ≤ w.heap.size) :
    ∃ p' cp' w', appDev (.slice p n cp) (.slice ad m c) w = .ok (.slice p' N cp') w' ∧ OwnV w' B p' N cp' (L ++ l) ∧ Only (fun k => (Value.slice p n cp).ownBlock = some k) w w' := by
  subst hN hm
  obtain ⟨i, hi, hz, hsz, hby⟩ := info_parts info_dev
  rcases Nat.eq_zero_or_pos l.length with h0 | h0
  · have hl : l = [] := List.eq_nil_of_length_eq_zero h0
    subst hl
    have hle : n ≤ cp := by
      rcases hown.2.2 with ⟨h, h0⟩ | ⟨g, cap, cur, h, _, _, h1, _⟩
      · omega
      · cases h; exact h1
    have ht := Tryz.underlying28
    have hsrc : Src Tryz.prog i.size 28 (.slice ad 0 c) 0 [] w := by
      cases ad with
      | none => exact Src.ofNil (w := w) ht c
      | some b => exact Src.ofSlice (w := w) ht b 0 c [] (by simp) (fun j u hj => by simp at hj) (fun u hu => by cases hu)
    have hr := run_append_nothing (P := Tryz.prog) w 28 28 28 40 i ht hi p n cp hle (.slice ad 0 c) hsrc
    exact ⟨p, cp, w, hr, by rw [List.append_nil]; exact hown, Only.refl _ _⟩
  · cases ad with
    | none => exact absurd rfl (rowAt_some hV h0)
    | some b =>
      obtain ⟨g, cap, w', hr, h2, h3, _, _⟩ := run_append_lies (P := Tryz.prog) w 28 28 B 40 i _ 10 136 Tryz.underlying28 hi hz hsz hby rfl (by decide) (.slice p n cp) n (flatV L) hown.2 b l.length c (flatV l) (flatV_len l) (rowAt_news hV b rfl) (flatV_one l) h0 (by simp only [maxLen]; omega) (by omega) hbase _ rfl
      refine ⟨_, _, w', hr, ⟨by rw [List.length_append, hown.1], ?_⟩, ⟨h3.os, h3.tape, h3.output, h3.size, fun k hk hn => h3.block k hk fun e => hn e.symm⟩⟩
      rw [flatV_app]
      exact h2

end Go.Proofs.YtinjeijjfkkhbaaGreatDoor
