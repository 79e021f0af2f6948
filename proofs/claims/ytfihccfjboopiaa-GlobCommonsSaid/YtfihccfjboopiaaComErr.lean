/-
  glob.Common at a pattern that is none.
-/
import Derived.Test.YtfihccfjboopiaaComFn
namespace Go.Proofs.Ytfihccfjboopiaa
open Go.RowKit Go.Maps

theorem parse_bad (p : ByteArray) (w : World) (hsz : p.size ≤ 1000000000000) {er : Int} (h : errS (bs p) = er) : Calls Try.prog 39 #[.string p] w fun e w' => ∃ v, e = .returned (.tuple #[v, .int .i64 er]) ∧ Below w.heap.size w w' :=
  (parse_any p w (Nat.le_trans hsz (by decide))).mono fun e w' ⟨v, he', hb, _⟩ => ⟨v, by rw [← h]; exact he', hb⟩
theorem parse_good (p : ByteArray) (w : World) (hsz : p.size ≤ 1000000000000) {l : List (List G.El)} (h : G.alts (bs p) = some l) : Calls Try.prog 39 #[.string p] w fun e w' => ∃ v, e = .returned (.tuple #[v, .int .i64 0]) ∧ Below w.heap.size w w' ∧ Alts w' w.heap.size v l ∧ l.length ≤ 257 ∧ ∀ a, a ∈ l → a.length ≤ 256 :=
  (parse_any p w (Nat.le_trans hsz (by decide))).mono fun e w' ⟨v, he', hb, hl⟩ => ⟨v, by rw [← errS_some h]; exact he', hb, (hl l h).1, (hl l h).2.1, (hl l h).2.2⟩

set_option maxHeartbeats 400000 in
theorem common_bad1 (p q : ByteArray) (w : World) (hp : p.size ≤ 1000000000000) {er : Int} (h : errS (bs p) = er) (h0 : er ≠ 0) :
    Calls Try.prog 24 #[.string p, .string q] w fun e w' => e = .returned (.tuple #[.string ⟨#[]⟩, .bool false, .int .i64 er]) ∧ Below w.heap.size w w' := by
  have hP := parse_bad p w hp h
  have hb1 : (er != 0) = true := by simpa using h0
  have hP' := Lib.hid hP; clear hP h
  go_enter Try.func24, Try.ntmps24
  go_wp2_with (go_at_call 39; refine hP'.out.mono ?_; rintro e w' ⟨v, rfl, hb⟩)
  go_ret3
  exact ⟨rfl, hb⟩

set_option maxHeartbeats 400000 in
theorem common_bad2 (p q : ByteArray) (w : World) (hp : p.size ≤ 1000000000000) (hq : q.size ≤ 1000000000000) {P : List (List G.El)} (h1 : G.alts (bs p) = some P) {er : Int} (h : errS (bs q) = er) (h0 : er ≠ 0) :
    Calls Try.prog 24 #[.string p, .string q] w fun e w' => e = .returned (.tuple #[.string ⟨#[]⟩, .bool false, .int .i64 er]) ∧ Below w.heap.size w w' := by
  have hP := parse_good p w hp h1
  have hQ := fun w1 => parse_bad q w1 hq h
  have hb1 : (er != 0) = true := by simpa using h0
  have hP' := Lib.hid hP; clear hP h1
  have hQ' := Lib.hid hQ; clear hQ h
  go_enter Try.func24, Try.ntmps24
  go_wp2_with fail
  refine hP'.out.mono ?_
  rintro e w1 ⟨v, rfl, hb, _⟩
  have hb' := Lib.hid hb; clear hb
  go_wp2_with fail
  refine (hQ'.out w1).mono ?_
  rintro e w2 ⟨v2, rfl, hb2⟩
  have hb2' := Lib.hid hb2; clear hb2
  go_wp2_with fail
  go_ret3
  exact ⟨rfl, hb'.out.trans (hb2'.out.mono hb'.out.size)⟩
theorem Alts.len {w : World} {B : Nat} {v : Value} {l : List (List G.El)} (h : Alts w B v l) : ∃ p cap, v = .slice p l.length cap := by
  obtain ⟨vs, ⟨_, h⟩, _⟩ := h
  rcases h with ⟨rfl, h0⟩ | ⟨g, cap, cur, rfl, _⟩
  · exact ⟨_, _, by rw [h0]⟩
  · exact ⟨_, _, rfl⟩
theorem Sch.start (w : World) {B : Nat} {vp vq : Value} {P Q : List (List G.El)} (hp : Alts w B vp P) (hq : Alts w B vq Q) : Sch ((w.alloc (.map #[] 0)).alloc (.cells #[vp, vq, .map (some w.heap.size)] 81)) B (w.heap.size + 1) w.heap.size vp vq P Q := by
  have hb : Below w.heap.size w ((w.alloc (.map #[] 0)).alloc (.cells #[vp, vq, .map (some w.heap.size)] 81)) := ((Below.refl _ _).alloc (Nat.le_refl _) _).alloc (by simp) _
  exact ⟨Blk.new_ _ _ _ (by simp), hp.below hb, hq.below hb⟩
theorem info_u8 : (Try.prog.info? 5).map (fun i => (i.zero, i.size, i.bytes)) = some (some (.int .u8 0), 1, 1) := by kernel_rfl
/-- A text in memory, byte by byte. -/
def TextRow (w : World) (B : Nat) (v : Value) (text : List Nat) : Prop := w.ownsRow B 5 1 v text.length (text.map fun c : Nat => Value.int .u8 c)
theorem TextRow.form {w : World} {B : Nat} {v : Value} {text : List Nat} (h : TextRow w B v text) : ∃ p cap, v = .slice p text.length cap := by
  rcases h.2 with ⟨rfl, h0⟩ | ⟨g, cap, cur, rfl, _⟩
  · exact ⟨_, _, by rw [h0]⟩
  · exact ⟨_, _, rfl⟩
theorem TextRow.conv {w : World} {B : Nat} {v : Value} {text : List Nat} (h : TextRow w B v text) : (convert 88 9 v).run Try.prog w = .ok (.string (strOfNums (text.map fun c : Nat => (c : Int)))) w := by
  have h0 := h
  rcases h.2 with ⟨rfl, hz⟩ | ⟨g, cap, cur, rfl, _⟩
  · have : text = [] := List.eq_nil_of_length_eq_zero hz
    subst this
    exact run_convert_bytes_nil (P := Try.prog) w 88 5 Try.underlying88 Try.underlying5 0 0 9 Try.underlying9
  · refine run_convert_bytes_arg (P := Try.prog) w 88 5 Try.underlying88 Try.underlying5 g 0 text.length cap (text.map fun c : Nat => (c : Int)) (by simp) (fun i hi => ?_) 9 Try.underlying9
    unfold TextRow at h0
    rw [Nat.zero_add, World.ownsRow.cellAt h0 i (by simpa using hi)]
    simp [List.getD_eq_getElem?_getD, List.getElem?_eq_getElem hi]
theorem pos_u8 (W : World) (c : Nat) : ∀ j u, [Value.int .u8 (c : Int)][j]? = some u → (W.alloc (.cells #[.int .u8 c] 5)).cell? ((⟨W.heap.size, 0, none⟩ : Addr).add j) = some u :=
  World.news_of_block (cs := #[.int .u8 c]) (t := 5) (fr := (0, 0)) (heap_alloc_new W _)

/-- What holds while the text is gathered. -/
def TextAt (P Q : List (List G.El)) (mb best : Nat) (w3 : World) (m : Nat) (s11 s17 : Value) (wr : World) : Prop :=
  ∃ (text : List Nat) (xs : List G.Pos) (K : G.Pos → Bool), Poss wr w3.heap.size s11 xs ∧ (∀ x, x ∈ xs → G.InP P Q x) ∧ xs.length ≤ manyN ∧ TextRow wr w3.heap.size s17 text ∧ (∀ c, c ∈ text → c ≤ 126) ∧ G.At (G.pairs P Q) best text (xs.map (G.prOf P Q)) m ∧
    Only (fun k => k = mb) w3 wr ∧ Costs wr mb P Q K

end Go.Proofs.Ytfihccfjboopiaa
