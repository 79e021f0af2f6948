/-
  THE WALK of a view's find.
-/
import Derived.Test.YtfihccfjboopiaaTreeLook
namespace Go.Proofs.Ytfihccfjboopiaa
open Go.RowKit Go.Maps

/-- The last device with a number. -/
def lastD (l : List Dev) (i : Int) : Option Dev := (lastIx l l.length i).bind (l[·]?)
theorem lastD_some {l : List Dev} {i : Int} {j : Nat} (h : lastIx l l.length i = some j) : ∃ d, l[j]? = some d ∧ d.idx = i ∧ lastD l i = some d := by
  obtain ⟨_, d, h1, h2⟩ := lastIx_lt l _ i j h
  exact ⟨d, h1, h2, by unfold lastD; rw [h]; exact h1⟩
/-- What a view's find hands back. -/
def findV (l : List Dev) (i : Int) : Value := match lastD l i with
  | some d => .tuple #[devV d, .bool true]
  | none => .tuple #[zeroDev, .bool false]

set_option maxRecDepth 100000 in
set_option maxHeartbeats 2000000 in
theorem vfind_any (l : List Dev) (p : Option Addr) (n c b1 b2 : Nat) (i : Int) (w : World) (hl : DevsAt w (.slice p n c) l) (hP : Places w b1 l l.length) (hi : Wf i) :
    Calls Try.prog 90 #[viewV p n c b1 b2, .int .i64 i] w fun e w' => e = .returned (findV l i) ∧ Below w.heap.size w w' := by
  have hb1 : Below w.heap.size w (w.alloc (.cells #[.slice p n c, .map (some b1), .map (some b2)] 139)) := (Below.refl _ _).alloc (Nat.le_refl _) _
  have hbb : Below w.heap.size w ((w.alloc (.cells #[.slice p n c, .map (some b1), .map (some b2)] 139)).alloc (.cells #[.int .i64 0, .int .i64 0, .string ⟨#[]⟩, .string ⟨#[]⟩, .string ⟨#[]⟩, .string ⟨#[]⟩, .string ⟨#[]⟩, .int .i64 0, .int .i64 0, .slice none 0 0] 42)) := hb1.alloc hb1.size _
  have hX : Hid (Blk ((w.alloc (.cells #[.slice p n c, .map (some b1), .map (some b2)] 139)).alloc (.cells #[.int .i64 0, .int .i64 0, .string ⟨#[]⟩, .string ⟨#[]⟩, .string ⟨#[]⟩, .string ⟨#[]⟩, .string ⟨#[]⟩, .int .i64 0, .int .i64 0, .slice none 0 0] 42)) w.heap.size 139 #[.slice p n c, .map (some b1), .map (some b2)]) := (Blk.new _ _ _).alloc _
  have hY : Hid (Blk ((w.alloc (.cells #[.slice p n c, .map (some b1), .map (some b2)] 139)).alloc (.cells #[.int .i64 0, .int .i64 0, .string ⟨#[]⟩, .string ⟨#[]⟩, .string ⟨#[]⟩, .string ⟨#[]⟩, .string ⟨#[]⟩, .int .i64 0, .int .i64 0, .slice none 0 0] 42)) (w.heap.size + 1) 42 #[.int .i64 0, .int .i64 0, .string ⟨#[]⟩, .string ⟨#[]⟩, .string ⟨#[]⟩, .string ⟨#[]⟩, .string ⟨#[]⟩, .int .i64 0, .int .i64 0, .slice none 0 0]) := Blk.new_ _ _ _ (by simp)
  have hP2 : Places ((w.alloc (.cells #[.slice p n c, .map (some b1), .map (some b2)] 139)).alloc (.cells #[.int .i64 0, .int .i64 0, .string ⟨#[]⟩, .string ⟨#[]⟩, .string ⟨#[]⟩, .string ⟨#[]⟩, .string ⟨#[]⟩, .int .i64 0, .int .i64 0, .slice none 0 0] 42)) b1 l l.length := hP.heap (hbb.block b1 hP.lt)
  have hl2 := hl.below hbb
  obtain ⟨cv, hlook, hcv⟩ := hP2.look hi
  have hb' := Lib.hid hbb; clear hbb hb1 hl hP hP2
  have hone : (#[.int .i64 0, .int .i64 0, .string ⟨#[]⟩, .string ⟨#[]⟩, .string ⟨#[]⟩, .string ⟨#[]⟩, .string ⟨#[]⟩, .int .i64 0, .int .i64 0, .slice none 0 0] : Array Value).all (·.oneCell') = true := by simp [Value.oneCell']
  obtain ⟨R, hR⟩ : ∃ R, findV l i = R := ⟨_, rfl⟩
  rw [hR]
  unfold viewV
  cases hx : lastIx l l.length i with
  | none =>
    have hF : R = .tuple #[zeroDev, .bool false] := by
      rw [← hR]; unfold findV lastD; rw [hx]; rfl
    subst hF
    rw [hx] at hlook
    have hlook : (Instr.lookup 136 (.map (some b1)) (.int .i64 i) true).run Try.prog ((w.alloc (.cells #[.slice p n c, .map (some b1), .map (some b2)] 139)).alloc (.cells #[.int .i64 0, .int .i64 0, .string ⟨#[]⟩, .string ⟨#[]⟩, .string ⟨#[]⟩, .string ⟨#[]⟩, .string ⟨#[]⟩, .int .i64 0, .int .i64 0, .slice none 0 0] 42)) = .ok (.tuple #[.int .i64 cv, .bool false]) ((w.alloc (.cells #[.slice p n c, .map (some b1), .map (some b2)] 139)).alloc (.cells #[.int .i64 0, .int .i64 0, .string ⟨#[]⟩, .string ⟨#[]⟩, .string ⟨#[]⟩, .string ⟨#[]⟩, .string ⟨#[]⟩, .int .i64 0, .int .i64 0, .slice none 0 0] 42)) := hlook
    clear hcv hx hR
    go_enter Try.func90, Try.ntmps90
    go_upto_region 1 with fail
    generalize ((w.alloc (.cells #[.slice p n c, .map (some b1), .map (some b2)] 139)).alloc (.cells #[.int .i64 0, .int .i64 0, .string ⟨#[]⟩, .string ⟨#[]⟩, .string ⟨#[]⟩, .string ⟨#[]⟩, .string ⟨#[]⟩, .int .i64 0, .int .i64 0, .slice none 0 0] 42)) = w2 at *
    have x1 := hX.out.cell 1
    simp only [List.getElem?_toArray, List.getElem?_cons_zero, List.getElem?_cons_succ] at x1
    go_wp2_with (refine wpList_store_row rfl 42 (.tmp 4) (.tmp 17) rfl (w.heap.size + 1) #[.int .i64 0, .int .i64 0, .string ⟨#[]⟩, .string ⟨#[]⟩, .string ⟨#[]⟩, .string ⟨#[]⟩, .string ⟨#[]⟩, .int .i64 0, .int .i64 0, .slice none 0 0] rfl rfl 42 #[.int .i64 0, .int .i64 0, .string ⟨#[]⟩, .string ⟨#[]⟩, .string ⟨#[]⟩, .string ⟨#[]⟩, .string ⟨#[]⟩, .int .i64 0, .int .i64 0, .slice none 0 0] hY.out (sizeDev _ rfl) rfl hone ?_)
    exact bodyPost_ret (results_row_tmp rfl _ _ (w.heap.size + 1) 42 _ _ rfl (hY.out.row _) Try.underlying42 rfl (sizeDev _ rfl)) rfl ⟨rfl, below_row hb'.out (Nat.le_succ _) _⟩
  | some j =>
    obtain ⟨d, hd, hdi, hld⟩ := lastD_some hx
    have hF : R = .tuple #[devV d, .bool true] := by
      rw [← hR]; unfold findV; rw [hld]
    rw [hx] at hlook
    obtain rfl := hcv j hx
    have hlook : (Instr.lookup 136 (.map (some b1)) (.int .i64 i) true).run Try.prog ((w.alloc (.cells #[.slice p n c, .map (some b1), .map (some b2)] 139)).alloc (.cells #[.int .i64 0, .int .i64 0, .string ⟨#[]⟩, .string ⟨#[]⟩, .string ⟨#[]⟩, .string ⟨#[]⟩, .string ⟨#[]⟩, .int .i64 0, .int .i64 0, .slice none 0 0] 42)) = .ok (.tuple #[.int .i64 j, .bool true]) ((w.alloc (.cells #[.slice p n c, .map (some b1), .map (some b2)] 139)).alloc (.cells #[.int .i64 0, .int .i64 0, .string ⟨#[]⟩, .string ⟨#[]⟩, .string ⟨#[]⟩, .string ⟨#[]⟩, .string ⟨#[]⟩, .int .i64 0, .int .i64 0, .slice none 0 0] 42)) := hlook
    obtain ⟨⟨hlen, hs⟩, _⟩ := hl2
    rcases hs with ⟨_, h0⟩ | ⟨g, o, cap, hsl, hg, hcells⟩
    · have : l = [] := List.map_eq_nil_iff.1 h0
      subst this
      cases hd
    · rw [List.length_map] at hsl hlen
      injection hsl with e1 e2 e3
      subst e1 e2 e3
      have hjl : j < l.length := (List.getElem?_eq_some_iff.1 hd).1
      have hc := hcells j (devC d) (by rw [List.getElem?_map, hd]; rfl)
      generalize hN : l.length = N at *
      have q0 : ((w.alloc (.cells #[.slice (some ⟨g, o, none⟩) N c, .map (some b1), .map (some b2)] 139)).alloc (.cells #[.int .i64 0, .int .i64 0, .string ⟨#[]⟩, .string ⟨#[]⟩, .string ⟨#[]⟩, .string ⟨#[]⟩, .string ⟨#[]⟩, .int .i64 0, .int .i64 0, .slice none 0 0] 42)).cell? ⟨g, o + j * 10, none⟩ = some (.int .i64 d.idx) := hc 0 _ rfl
      have q1 := hc 1 _ rfl
      have q2 := hc 2 _ rfl
      have q3 := hc 3 _ rfl
      have q4 := hc 4 _ rfl
      have q5 := hc 5 _ rfl
      have q6 := hc 6 _ rfl
      have q7 := hc 7 _ rfl
      have q8 := hc 8 _ rfl
      have q9 := hc 9 _ rfl
      have ij : (j : Int) < (N : Int) := by omega
      have ij0 : (0 : Int) ≤ (j : Int) := by omega
      obtain ⟨x0, x1, x2, x3, x4, x5, x6, x7, x8, xa, xn, xc, xt⟩ := d
      simp only [Dev.atv] at q0 q1 q2 q3 q4 q5 q6 q7 q8 q9
      have hF' := Lib.hid hF
      clear hc hcells hcv hx hR hF hd hdi hld hN
      have hone2 : (#[.int .i64 x0, .int .i64 x1, .string x2, .string x3, .string x4, .string x5, .string x6, .int .i64 x7, .int .i64 x8, .slice xa xn xc] : Array Value).all (·.oneCell') = true := by simp [Value.oneCell']
      go_enter Try.func90, Try.ntmps90
      go_upto_region 1 with fail
      generalize ((w.alloc (.cells #[.slice (some ⟨g, o, none⟩) N c, .map (some b1), .map (some b2)] 139)).alloc (.cells #[.int .i64 0, .int .i64 0, .string ⟨#[]⟩, .string ⟨#[]⟩, .string ⟨#[]⟩, .string ⟨#[]⟩, .string ⟨#[]⟩, .int .i64 0, .int .i64 0, .slice none 0 0] 42)) = w2 at *
      have y0 := hX.out.cell 0
      have y1 := hX.out.cell 1
      simp only [List.getElem?_toArray, List.getElem?_cons_zero, List.getElem?_cons_succ] at y0 y1
      go_wp2_with (refine wpList_store_row rfl 42 (.tmp 4) (.tmp 22) rfl (w.heap.size + 1) #[.int .i64 x0, .int .i64 x1, .string x2, .string x3, .string x4, .string x5, .string x6, .int .i64 x7, .int .i64 x8, .slice xa xn xc] rfl rfl 42 #[.int .i64 0, .int .i64 0, .string ⟨#[]⟩, .string ⟨#[]⟩, .string ⟨#[]⟩, .string ⟨#[]⟩, .string ⟨#[]⟩, .int .i64 0, .int .i64 0, .slice none 0 0] hY.out (sizeDev _ rfl) rfl hone2 ?_)
      exact bodyPost_ret (results_row_tmp rfl _ _ (w.heap.size + 1) 42 _ _ rfl (hY.out.row _) Try.underlying42 rfl (sizeDev _ rfl)) rfl ⟨by rw [hF'.out]; rfl, below_row hb'.out (Nat.le_succ _) _⟩

end Go.Proofs.Ytfihccfjboopiaa
