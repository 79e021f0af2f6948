/-
  A TEXT IN MEMORY, byte by byte (seat of the lexer).
-/
import Derived.Test.YtofemhaepadggaaDoorLexParts
namespace Go.Proofs.YtofemhaepadggaaDoor
open Go.RowKit

/-- A text out of its bytes. -/
theorem bs_nums {l : List Nat} (h : ∀ c, c ∈ l → c ≤ 255) : bs (strOfNums (l.map fun c : Nat => (c : Int))) = l := by
  unfold bs strOfNums
  simp only [List.map_map]
  induction l with
  | nil => rfl
  | cons c l ih =>
    have hc := h c (by simp)
    have ih' := ih fun d hd => h d (List.mem_cons_of_mem _ hd)
    simp only [List.map_cons, List.cons.injEq]
    exact ⟨by show UInt8.toNat _ = c; simp; omega, ih'⟩
theorem info_u8 : (Tryd.prog.info? 5).map (fun i => (i.zero, i.size, i.bytes)) = some (some (.int .u8 0), 1, 1) := by kernel_rfl
/-- A text in memory, byte by byte. -/
def TextRow (w : World) (B : Nat) (v : Value) (text : List Nat) : Prop := w.ownsRow B 5 1 v text.length (text.map fun c : Nat => Value.int .u8 c)
theorem TextRow.conv {w : World} {B : Nat} {v : Value} {text : List Nat} (h : TextRow w B v text) : (convert 66 9 v).run Tryd.prog w = .ok (.string (strOfNums (text.map fun c : Nat => (c : Int)))) w := by
  have h0 := h
  rcases h.2 with ⟨rfl, hz⟩ | ⟨g, cap, cur, rfl, _⟩
  · have : text = [] := List.eq_nil_of_length_eq_zero hz
    subst this
    exact run_convert_bytes_nil (P := Tryd.prog) w 66 5 Tryd.underlying66 Tryd.underlying5 0 0 9 Tryd.underlying9
  · refine run_convert_bytes_arg (P := Tryd.prog) w 66 5 Tryd.underlying66 Tryd.underlying5 g 0 text.length cap (text.map fun c : Nat => (c : Int)) (by simp) (fun i hi => ?_) 9 Tryd.underlying9
    unfold TextRow at h0
    rw [Nat.zero_add, World.ownsRow.cellAt h0 i (by simpa using hi)]
    simp [List.getD_eq_getElem?_getD, List.getElem?_eq_getElem hi]
theorem cell_one_new (w : World) (a : Value) (t : TypeId) : ∀ (j : Nat) (u : Value), [a][j]? = some u → (w.alloc (.cells #[a] t)).cell? ((⟨w.heap.size, 0, none⟩ : Addr).add j) = some u := by
  intro j u h
  match j with
  | 0 => simp at h; subst h; simp [Addr.add]
  | j + 1 => simp at h

theorem bs_le (s : ByteArray) : ∀ c, c ∈ bs s → c ≤ 255 := by
  intro c hc
  obtain ⟨x, _, rfl⟩ := List.mem_map.1 hc
  have := x.toNat_lt
  omega

end Go.Proofs.YtofemhaepadggaaDoor
