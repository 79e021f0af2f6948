/-
  THE WALK of coldplugref04.Origin: a row of texts of the call's own, no longer than the tree.
-/
import Derived.Test.YtinjeijjfkkhbaaGreatDoorZChain
import Derived.Test.YtinjeijjfkkhbaaGreatDoorZClash
namespace Go.Proofs.YtinjeijjfkkhbaaGreatDoor
open Go Go.RowKit

theorem zinfo_str : (Tryz.prog.info? 9).map (fun i => (i.zero, i.size, i.bytes)) = some (some (.string ⟨#[]⟩), 1, 16) := by kernel_rfl
def OwnS (w : World) (B : Nat) (p : Option Addr) (n c : Nat) (l : List ByteArray) : Prop := l.length = n ∧ w.ownsRow B 9 1 (.slice p n c) n (l.map Value.string)
theorem ownS_none (w : World) (B : Nat) : OwnS w B none 0 0 [] := ⟨rfl, rfl, .inl ⟨rfl, rfl⟩⟩
theorem OwnS.alloc {w : World} {B : Nat} {p : Option Addr} {n c : Nat} {L : List ByteArray} (h : OwnS w B p n c L) (o : Obj) : OwnS (w.alloc o) B p n c L := ⟨h.1, World.ownsRow.alloc h.2 o⟩
theorem OwnS.later {w w' : World} {B : Nat} {p : Option Addr} {n c : Nat} {L : List ByteArray} (h : OwnS w B p n c L) (hb : Below w.heap.size w w') : OwnS w' B p n c L :=
  ⟨h.1, own_only h.2 (Only.of_below (S := fun _ => False) hb fun k h1 h2 => by omega) (fun _ _ h => h)⟩
theorem strs_flat (l : List ByteArray) : (l.map fun s => [Value.string s]).flatten = l.map Value.string := by
  induction l with
  | nil => rfl
  | cons a l ih => simp [ih]
theorem OwnS.row {w : World} {B : Nat} {p : Option Addr} {n c : Nat} {L : List ByteArray} (h : OwnS w B p n c L) (h9 : n ≤ 1000000000) : StrsAt w (.slice p n c) L :=
  RowAt.own (l := L.map fun s => [Value.string s]) (by rw [strs_flat]; exact h.2) (by rw [List.length_map]; exact h.1) (fun x hx => by
    obtain ⟨y, _, rfl⟩ := List.mem_map.1 hx
    rfl) (by rw [List.length_map, h.1]; omega)
theorem belowS {B : Nat} {w0 w w' : World} {p : Option Addr} {n c : Nat} {L : List ByteArray} (hB : B ≤ w0.heap.size) (hb : Below B w0 w) (ho : OwnS w B p n c L) (h : Only (fun k => (Value.slice p n c).ownBlock = some k) w w') : Below B w0 w' :=
  ⟨h.os.trans hb.os, h.tape.trans hb.tape, h.output.trans hb.output, Nat.le_trans hb.size h.size, fun k hk => by
    have hl : k < w.heap.size := by have := hb.size; omega
    exact (h.block k hl fun e => by have := (World.ownsRow.lt ho.2 k e).1; omega).trans (hb.block k hk)⟩
section
variable {ops : Array Oper} {rest : List Oper} {o : Oper} {a : Act} {w : World} {Q : Exit → Act → World → Prop}
theorem wp_app_str {K : Act → World → Prop} (s x : Operand) (B : Nat) (p : Option Addr) (n cp : Nat) (L : List ByteArray) (b : Nat) (t : ByteArray)
    (ho : o.op = .call { callee := .builtin .append, args := #[s, x], argTypes := #[52, 52] })
    (hs : a.eval s = .slice p n cp) (hown : OwnS w B p n cp L) (hx : a.eval x = .slice (some ⟨b, 0, none⟩) 1 1) (hV : Blk w b 9 #[.string t])
    (hn : n ≤ 1000000) (hbase : B ≤ w.heap.size)
    (h : ∀ p' cp' w', OwnS w' B p' (n + 1) cp' (L ++ [t]) → Only (fun k => (Value.slice p n cp).ownBlock = some k) w w' → K (a.put o.dst (.slice p' (n + 1) cp')) w') : o.wp Tryz.prog a w K Q := by
  obtain ⟨i, hi, hz, hsz, hby⟩ := info_parts zinfo_str
  refine wp_append_all s x 52 ho B 9 i (.string ⟨#[]⟩) 1 16 Tryz.underlying52 hi hz hsz hby rfl (by decide) p n cp (L.map Value.string) hs hown.2 (some ⟨b, 0, none⟩) 1 1 [.string t] hx rfl (fun q hq j u hj => ?_) (fun _ => by simp) (fun u hu => by simp at hu; subst hu; rfl) (by simp only [maxLen]; omega) (by omega) hbase fun p' cp' w' h1 h2 => h p' cp' w' ⟨?_, ?_⟩ h2
  · cases hq
    rw [addr_add, Nat.zero_add, hV.cell j]
    cases j with
    | zero => simpa using hj
    | succ j => simp at hj
  · rw [List.length_append, hown.1]; rfl
  · rw [List.map_append]; exact h1
theorem list_app_str (hgd : o.guard = none) (s x : Operand) (B : Nat) (p : Option Addr) (n cp : Nat) (L : List ByteArray) (b : Nat) (t : ByteArray)
    (ho : o.op = .call { callee := .builtin .append, args := #[s, x], argTypes := #[52, 52] })
    (hs : a.eval s = .slice p n cp) (hown : OwnS w B p n cp L) (hx : a.eval x = .slice (some ⟨b, 0, none⟩) 1 1) (hV : Blk w b 9 #[.string t])
    (hn : n ≤ 1000000) (hbase : B ≤ w.heap.size)
    (h : ∀ p' cp' w', OwnS w' B p' (n + 1) cp' (L ++ [t]) → Only (fun k => (Value.slice p n cp).ownBlock = some k) w w' → wpList Tryz.prog ops Q rest (a.put o.dst (.slice p' (n + 1) cp')) w') : wpList Tryz.prog ops Q (o :: rest) a w :=
  wpList_plain hgd fun _ hK => wp_app_str s x B p n cp L b t ho hs hown hx hV hn hbase fun p' cp' w' h1 h2 => hK _ _ (h p' cp' w' h1 h2)
end
theorem rowDev_cell {w wr : World} {a : Option Addr} {n c k : Nat} {l : List Dev} (h : RowAt w (.slice a n c) 10 (l.map devC)) (hb : Below w.heap.size w wr) (hk : k < n) : ∃ d g o, l[k]? = some d ∧ a = some ⟨g, o, none⟩ ∧ ∀ (j : Nat) (u : Value), (devC d)[j]? = some u → wr.cell? ⟨g, o + k * 10 + j, none⟩ = some u := by
  rcases h.2 with ⟨h1, h0⟩ | ⟨g, o, cap, h1, hg, hc⟩
  · cases h1; omega
  · cases h1
    obtain ⟨d, hd⟩ : ∃ d, l[k]? = some d := ⟨_, List.getElem?_eq_getElem (by simpa using hk)⟩
    exact ⟨d, g, o, hd, rfl, fun j u hu => (World.cell?_of_block (hb.block g hg)).trans (hc k (devC d) (by rw [List.getElem?_map, hd]; rfl) j u hu)⟩

set_option maxRecDepth 100000 in
set_option maxHeartbeats 4000000 in
theorem zorigin_any (l : List Dev) (p : Option Addr) (n c : Nat) (i : Int) (w : World) (hl : DevsAt w (.slice p n c) l) (hn : n ≤ 1000) :
    Calls Tryz.prog 41 #[.agg #[.slice p n c], .int .i64 i] w fun e w' => (∃ q m d L, e = .returned (.slice q m d) ∧ m ≤ n ∧ OwnS w' w.heap.size q m d L) ∧ Below w.heap.size w w' := by
  have hb1 : Hid (Below w.heap.size w (w.alloc (.cells #[.slice p n c] 30))) := (Below.refl _ _).alloc (Nat.le_refl _) _
  have hX : Hid (Blk (w.alloc (.cells #[.slice p n c] 30)) w.heap.size 30 #[.slice p n c]) := Blk.new _ _ _
  have hC := Lib.hid (rchain_any l p n c i _ (hl.below hb1.out) hn)
  have hlen := chainR_len l n i
  generalize chainR l n i = R at *
  clear hl
  go_enter Tryz.func41, Tryz.ntmps41
  go_upto_region 1 with fail
  generalize w.alloc (.cells #[.slice p n c] 30) = w2 at *
  have x0 := hX.out.cell 0
  simp only [List.getElem?_toArray, List.getElem?_cons_zero] at x0
  go_wp2_with fail
  refine hC.out.mono ?_
  rintro e v1 ⟨⟨q, M, d, rfl, hown⟩, hb2⟩
  have hM : M ≤ n := by rw [← hown.1]; exact hlen
  have hrow := Lib.hid (hown.row (by omega))
  have hb3 := Lib.hid (hb1.out.trans (hb2.mono hb1.out.size))
  clear hown hb2 hC hX x0 hlen
  go_wp2_with fail
  go_loopw [5, 7] (fun s5 s7 wr => ∃ (k : Nat) (q5 : Option Addr) (m5 d5 : Nat) (L : List ByteArray), s5 = .slice q5 m5 d5 ∧ s7 = .int .i64 ((k : Int) - 1) ∧ k + m5 = M ∧ Hid (OwnS wr v1.heap.size q5 m5 d5 L) ∧ Hid (Below v1.heap.size v1 wr)) (fun s5 _ _ => M - lenV s5)
  case atStart =>
    refine ⟨M, none, 0, 0, [], rfl, ?_, by omega, (show OwnS v1 _ none 0 0 [] from ownS_none _ _), (show Below v1.heap.size v1 v1 from Below.refl _ _)⟩
    first | rfl | (rw [IntWalk.i64_in _ (by omega)])
  case round =>
    obtain ⟨k, q5, m5, d5, L, rfl, rfl, hkm, ho5, hb5⟩ := hrel
    by_cases hk0 : 0 < k
    · obtain ⟨j, rfl⟩ : ∃ j, k = j + 1 := ⟨k - 1, by omega⟩
      have ej : ((j + 1 : Nat) : Int) - 1 = (j : Int) := by omega
      rw [ej]
      obtain ⟨dv, g, o, hdv, rfl, hc⟩ := rowDev_cell hrow.out hb5.out (k := j) (by omega)
      have c3 := hc 3 _ rfl
      have ij0 : (0 : Int) ≤ (j : Int) := by omega
      have ij1 : (j : Int) < (M : Int) := by omega
      have iw : IntKind.i64.wrap ((j : Int) - 1) = (j : Int) - 1 := IntWalk.i64_in _ (by omega)
      clear hc hdv
      go_wp2_with (first | (at_builtin; refine list_app_str (by rfl) (.tmp 18) (.tmp 24) v1.heap.size q5 m5 d5 L _ dv.orig (by rfl) (by rfl) (ho5.out.alloc _) (by rfl) (Blk.new wr _ _) (by omega) (hb5.out.alloc hb5.out.size _).size ?_; intro q6 d6 y6 ho6 hO6) | fail)
      have hb6 := Lib.hid (belowS (by exact Nat.le_refl _) (hb5.out.alloc hb5.out.size _) (ho5.out.alloc _) hO6)
      have ho6' := Lib.hid ho6
      go_roundw
      case rel => exact ⟨j, q6, m5 + 1, d6, _, rfl, by first | rfl | rw [iw], by omega, ho6', hb6⟩
      case measure => simp [lenV]; omega
    · obtain rfl : k = 0 := by omega
      have hend : Hid (OwnS wr w.heap.size q5 m5 d5 L) := ⟨ho5.out.1, own_mono ho5.out.2 hb3.out.size⟩
      have i0 : ¬ (0 : Int) ≤ -1 := by omega
      go_wp2_with fail
      go_ret
      exact ⟨⟨_, _, _, rfl, by omega, _, hend.out⟩, hb3.out.trans (hb5.out.mono hb3.out.size)⟩

end Go.Proofs.YtinjeijjfkkhbaaGreatDoor
