/-
  A DEVICE IN A ROW OF ITS OWN, AND DEVICES BEHIND IT: append([]api.Device{d}, l...).
-/
import Derived.Test.YtfihccfjboopiaaMatchDraft
import Derived.Deep.Upon
namespace Go.Proofs.Ytfihccfjboopiaa
open Go Go.RowKit Go.Maps

theorem dev_all (l : List Dev) : ∀ u ∈ (l.map devC).flatten, u.oneCell' = true := fun u hu => by
  obtain ⟨x, hx, hu⟩ := List.mem_flatten.1 hu
  obtain ⟨y, _, rfl⟩ := List.mem_map.1 hx
  exact dev_one y u hu
theorem row_one {W : World} {g : Nat} {d : Dev} (hrow : Blk W g 42 (devC d).toArray) (hd : DevAt W d) : DevsAt W (.slice (some ⟨g, 0, none⟩) 1 1) [d] := by
  refine ⟨⟨by simp, .inr ⟨g, 0, 1, rfl, hrow.lt, fun k xs hx j u hu => ?_⟩⟩, fun e he => by rw [List.mem_singleton.1 he]; exact hd⟩
  have hk : k = 0 := by
    have := (List.getElem?_eq_some_iff.1 hx).1
    simp at this
    exact this
  subst hk
  cases hx
  rw [hrow.cell]
  simpa using hu

theorem join_any (W : World) (g : Nat) (d : Dev) (V : Value) (l' : List Dev) (hrow : Blk W g 42 (devC d).toArray) (hd : DevAt W d) (hV : DevsAt W V l') (hlen : l'.length ≤ 1000) :
    ∃ p c w', appDev (.slice (some ⟨g, 0, none⟩) 1 1) V W = .ok (.slice p (l'.length + 1) c) w' ∧ DevsAt w' (.slice p (l'.length + 1) c) (d :: l') ∧ Below W.heap.size W w' := by
  obtain ⟨i, hi, hz0, hz1, hz2⟩ := info_parts info_dev
  have hone := row_one hrow hd
  rcases l' with _ | ⟨d1, l'⟩
  · have hs : Src Try.prog i.size 45 V 0 [] W := by
      rcases hV.1.2 with ⟨rfl, _⟩ | ⟨g', o', cap', rfl, _, _⟩
      · exact Src.ofNil W Try.underlying45 0
      · exact Src.ofSlice W Try.underlying45 _ _ _ [] (by simp) (fun j u hj => by simp at hj) (fun u hu => by cases hu)
    exact ⟨_, 1, W, run_append_nothing (P := Try.prog) W 45 45 45 42 i Try.underlying45 hi (some ⟨g, 0, none⟩) 1 1 (Nat.le_refl _) V hs, hone, Below.refl _ _⟩
  · rcases hV.1.2 with ⟨_, h0⟩ | ⟨g', o', cap', rfl, hg', hc⟩
    · cases h0
    · have hrV := hV.1
      rw [List.length_map] at hrV ⊢
      have hnews := hrV.news (dev_ten (d1 :: l'))
      have hflen := rows_length ((d1 :: l').map devC) (dev_ten (d1 :: l'))
      rw [List.length_map] at hflen
      have holds : ∀ j v, (devC d)[j]? = some v → W.cell? ((⟨g, 0, none⟩ : Addr).add j) = some v := fun j v hv => by
        rw [addr_add, Nat.zero_add, hrow.cell]
        simpa using hv
      have hr := run_append_grow (P := Try.prog) W 45 45 42 i _ Try.underlying45 hi hz0 ⟨g, 0, none⟩ 1 1 (devC d) (by rw [hz1]; rfl) holds ⟨g', o', none⟩ (d1 :: l').length cap' ((d1 :: l').map devC).flatten (by rw [hz1]; exact hflen) hnews (by simp) (by simp only [List.length_cons] at hlen ⊢; omega)
        (growslice_fits (by simp) (by rw [hz2]; simp only [List.length_cons] at hlen ⊢; omega))
      rw [Nat.add_comm 1] at hr
      obtain ⟨C, hC⟩ : ∃ C, grownCap W ((d1 :: l').length + 1) 1 42 = C := ⟨_, rfl⟩
      rw [hC] at hr
      obtain ⟨Z, hZ⟩ : ∃ Z, Builtin.zeroCells (Value.agg #[.int .i64 0, .int .i64 0, .string ⟨#[]⟩, .string ⟨#[]⟩, .string ⟨#[]⟩, .string ⟨#[]⟩, .string ⟨#[]⟩, .int .i64 0, .int .i64 0, .slice none 0 0]).cells (C - ((d1 :: l').length + 1)) = Z := ⟨_, rfl⟩
      rw [hZ] at hr
      have hb : Below W.heap.size W (W.drew.alloc (.cells ((devC d).toArray ++ ((d1 :: l').map devC).flatten.toArray ++ Z) 42)) := (Below.drew (Below.refl _ _)).alloc (Nat.le_refl _) _
      have hB : Blk (W.drew.alloc (.cells ((devC d).toArray ++ ((d1 :: l').map devC).flatten.toArray ++ Z) 42)) W.heap.size 42 ((devC d).toArray ++ ((d1 :: l').map devC).flatten.toArray ++ Z) := Blk.new_ _ _ _ rfl
      refine ⟨_, _, _, hr, ⟨⟨?_, .inr ⟨W.heap.size, 0, C, by simp, hB.lt, fun k xs hx j u hu => ?_⟩⟩, fun e he => ?_⟩, hb⟩
      · simp only [List.length_map, List.length_cons] at hlen ⊢; omega
      · have hf := rows_at ((d :: d1 :: l').map devC) (dev_ten _) k xs hx j u hu
        rw [Nat.zero_add, hB.cell]
        have hf' : ((devC d).toArray ++ ((d1 :: l').map devC).flatten.toArray).toList[k * 10 + j]? = some u := by
          simpa using hf
        have hlt := (List.getElem?_eq_some_iff.1 hf').1
        rw [Array.getElem?_append_left (by simpa using hlt)]
        rw [← Array.getElem?_toList]
        exact hf'
      · rcases List.mem_cons.1 he with rfl | he
        · exact hd.below hb
        · exact (hV.2 e he).below hb

end Go.Proofs.Ytfihccfjboopiaa
