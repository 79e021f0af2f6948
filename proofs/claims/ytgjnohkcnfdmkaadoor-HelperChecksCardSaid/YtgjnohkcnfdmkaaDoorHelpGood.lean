/-
  THE WALK of helper.Call, one of its ways.
-/
import Derived.Test.YtgjnohkcnfdmkaaDoorHelpFn
namespace Go.Proofs.YtgjnohkcnfdmkaaDoor
open Go.RowKit

set_option maxHeartbeats 1000000 in
theorem call_good (l : List Hp) (v : Value) (limit calls : Int) (c : ByteArray) (w : World) (h16 : ¬ 16 ≤ calls) (hl : HelpersAt w v l) (h1 : ∀ h ∈ l, h.cmd.size ≤ 1000000000000) (h2 : c.size ≤ 1000000000000) (h : Hp) (hf : l.find? (hits c) = some h) (hlim : ¬ limit < h.ticks) (hfa : h.fails = false) :
    Calls Tryd.prog 13 #[v, .int .i64 limit, .int .i64 calls, .string c] w fun e w' => e = .returned (.tuple #[.string h.out, .int .i64 h.ticks, .int .i64 0]) ∧ Below w.heap.size w w' := by
  have hmf : ∀ (fn : Fn) (first cap : Array Value) (w : World), (Instr.makeFunc fn first cap).run Tryd.prog w = .ok (.func fn first cap) w := fun _ _ _ _ => rfl
  have hI := fun cb W hW hc => index_any l v c cb W hW hc h1 h2
  obtain ⟨k, hk, hlk⟩ := find_idx_some hf
  rw [hk] at hI
  have hI' := Lib.hid hI; clear hI hk hf
  have hkl : k < l.length := (List.getElem?_eq_some_iff.1 hlk).1
  obtain ⟨hlen, hl2⟩ := id hl
  rcases hl2 with ⟨rfl, rfl⟩ | ⟨g, o, cap, rfl, hg, hcells⟩
  · cases hlk
  obtain ⟨d0, d1, d2, d3⟩ := hcells k h hlk
  clear hcells
  have hl' := Lib.hid hl; clear hl hlk
  generalize l.length = n at *
  obtain ⟨cm, ou, fa, ti⟩ := h
  simp only at hlim hfa d0 d1 d2 d3
  have d0' := Lib.hid d0; clear d0
  have d1' := Lib.hid d1; clear d1
  have d2' := Lib.hid d2; clear d2
  have d3' := Lib.hid d3; clear d3
  subst hfa
  go_enter_defers Tryd.func13, Tryd.ntmps13
  go_wp2_with fail
  refine (hI'.out w.heap.size _ (helpers3 _ _ _ hl'.out) (by simp [go_sem])).mono ?_
  rintro e v1 ⟨rfl, hb1⟩
  obtain ⟨k1, B8, B10⟩ := behind hb1
  have e : ∀ i, v1.cell? ⟨g, i, none⟩ = w.cell? ⟨g, i, none⟩ := fun i => World.cell?_of_block (k1.block g hg)
  have c0 := (e _).trans d0'.out
  have c1 := (e _).trans d1'.out
  have c2 := (e _).trans d2'.out
  have c3 := (e _).trans d3'.out
  have c8 := B8.cell 0
  have f8 := B8.frozen 0
  have c10 := B10.cell 0
  have f10 := B10.frozen 0
  simp only [List.getElem?_toArray, List.getElem?_cons_zero] at c8 c10
  have k1' := Lib.hid k1; clear k1 hb1 B8 B10 e d0' d1' d2' d3' hI' hl'
  have hkn : ¬ (k : Int) < 0 := by omega
  have hne1 : g ≠ w.heap.size + 1 := by omega
  have hne2 : g ≠ w.heap.size + 2 := by omega
  go_wp2_with fail
  go_region
  all_goals go_wp2_with fail
  all_goals go_region
  all_goals go_wp2_with fail
  refine leaves_cons (f := 24) (args := #[.pointer (some ⟨w.heap.size + 2, 0, none⟩), .pointer (some ⟨w.heap.size + 1, 0, none⟩)]) (by simp) (by simp [go_sem]) ?_
  have hne : (⟨w.heap.size + 1, 0, none⟩ : Addr) ≠ ⟨w.heap.size + 2, 0, none⟩ := by simp
  refine (clear_ok ⟨w.heap.size + 2, 0, none⟩ ⟨w.heap.size + 1, 0, none⟩ .returning _ (cs_drew (cs_drew (cs_same ⟨_, cs_other hne (cs_other hne c10)⟩)))).mono ?_
  rintro e u' w'' ⟨rfl, rfl, hw⟩
  have r8 : w''.cell? ⟨w.heap.size + 1, 0, none⟩ = some (.string ou) := by
    rw [hw]
    exact cs_drew (cs_drew (cs_other (by simp) (cs_same ⟨_, cs_same ⟨_, c8⟩⟩)))
  have r10 : w''.cell? ⟨w.heap.size + 2, 0, none⟩ = some (.int .i64 0) := by
    rw [hw]
    exact cs_drew (cs_drew (cs_same ⟨_, cs_other hne (cs_other hne c10)⟩))
  have hB : Below w.heap.size w w'' := by
    rw [hw]
    repeat' (first | exact k1'.out | apply Below.drew | (refine Below.setCell ?_ (by simp; try omega) _))
  have hB' := Lib.hid hB; clear hB hw
  simp [Leaves, settle, results, Tryd.results13, go_sem, r8, r10]
  exact hB'.out

end Go.Proofs.YtgjnohkcnfdmkaaDoor
