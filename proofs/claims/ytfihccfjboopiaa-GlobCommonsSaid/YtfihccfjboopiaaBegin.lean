/-
  THE WALK of glob.beginning.
-/
import Derived.Test.YtfihccfjboopiaaCommon
import Derived.Test.YtfihccfjboopiaaGlobBegin
namespace Go.Proofs.Ytfihccfjboopiaa
open Go.RowKit Go.Maps

theorem Row.parts {w : World} {B : Nat} {v : Value} {l : List G.El} (h : Row w B v l) : ∃ p cap, v = .slice p l.length cap ∧ ∀ k x, l[k]? = some x → ∃ g, p = some ⟨g, 0, none⟩ ∧ g < w.heap.size ∧ w.rangeAt g (k * 129) (elL x) := by
  obtain ⟨p, cap, hv⟩ := h.len
  refine ⟨p, cap, hv, fun k x hx => ?_⟩
  obtain ⟨g, c2, hv2, hr⟩ := h.range hx
  rw [hv] at hv2
  cases hv2
  exact ⟨g, rfl, World.block_lt_of_cell? w _ (hr 0 _ (elL_lit x)), hr⟩
theorem range_below {w w' : World} {B g o : Nat} {L : List Value} (h : w.rangeAt g o L) (hb : Below B w w') (hg : g < B) : w'.rangeAt g o L := fun k u hu => (hb.cell (p := ⟨g, o + k, none⟩) hg).trans (h k u hu)

set_option maxRecDepth 100000 in
set_option maxHeartbeats 2000000 in
attribute [local go_sem ↓] load_from_op in
attribute [local go_sem] loadFrom_ptr in
theorem begin_any {w : World} {B : Nat} {v : Value} {l : List G.El} (hr : Row w B v l) (hl2 : l.length ≤ 256) (hlit : ∀ e, e ∈ l → G.LitOk e) :
    Calls Try.prog 66 #[v] w fun e w' => ∃ s : ByteArray, e = .returned (.string s) ∧ bs s = G.litPre l ∧ Below w.heap.size w w' := by
  obtain ⟨j0, hj0, hy0, hy1, hy2⟩ := info_parts info_u8
  obtain ⟨p, cap, rfl, hpf⟩ := hr.parts
  have hpf' := Lib.hid hpf; clear hpf hr
  have hlit' := Lib.hid hlit; clear hlit
  have hll : (l.length : Int) ≤ 256 := by omega
  go_enter Try.func66, Try.ntmps66
  go_wp2_with fail
  go_loopw [3, 8] (fun s3 s8 wr => ∃ (k : Nat) (acc : List Nat), s8 = .int .i64 k ∧ TextRow wr w.heap.size s3 acc ∧ G.LitTo l k acc ∧ (∀ c, c ∈ acc → c ≤ 126) ∧ Below w.heap.size w wr) (fun _ s8 _ => l.length - (intOf s8).toNat)
  case atStart => exact ⟨0, [], rfl, World.ownsRow_nil _ _ _ _, G.LitTo.start l, fun c hc => (by cases hc), Below.refl _ _⟩
  case round =>
    obtain ⟨k, acc, rfl, r1, r2, r3, r4⟩ := hrel
    have hkl := r2.1
    have hacl : acc.length ≤ 512 := by have := r2.2.2; omega
    have hcv := r1.conv
    have hbs : bs (strOfNums (acc.map fun c : Nat => (c : Int))) = acc := bs_nums fun c hc => by have := r3 c hc; omega
    obtain ⟨st, hst⟩ : ∃ z, z = strOfNums (acc.map fun c : Nat => (c : Int)) := ⟨_, rfl⟩
    rw [← hst] at hcv hbs
    have hbs' := Lib.hid hbs; clear hbs hst
    have r3' := Lib.hid r3; clear r3
    have hwr := r4.size
    by_cases hlt : k < l.length
    · obtain ⟨x, hx⟩ : ∃ x, l[k]? = some x := ⟨_, List.getElem?_eq_getElem hlt⟩
      obtain ⟨g, rfl, hg, hrg⟩ := hpf'.out k x hx
      have hrg2 := range_below hrg r4 hg
      have q5 := (from_range hrg2 (length_elL x)).1
      have q6 := ((from_range hrg2 (length_elL x)).2).trans (elL_arr x)
      have hok := hlit'.out x (List.mem_of_getElem? hx)
      have HB : Blk (wr.alloc (.cells Try.zeroCells118 118)) wr.heap.size 118 Try.zeroCells118 := Blk.new wr _ _
      have b2 : Below w.heap.size w ((wr.alloc (.cells Try.zeroCells118 118)).setRow wr.heap.size (elArr x)) := below_row (r4.alloc hwr (.cells Try.zeroCells118 118)) (by omega) _
      have t2 : TextRow ((wr.alloc (.cells Try.zeroCells118 118)).setRow wr.heap.size (elArr x)) w.heap.size u3 acc := own_only r1 (((Only.refl (fun _ => False) wr).alloc (.cells Try.zeroCells118 118)).setRow (g := wr.heap.size) (.inr (by omega)) (elArr x)) (fun _ _ h => h)
      have y0 : ((wr.alloc (.cells Try.zeroCells118 118)).setRow wr.heap.size (elArr x)).cell? ⟨wr.heap.size, 0, none⟩ = some (.int .u8 x.lit) := ((HB.row (elArr x)).cell 0).trans (elArr_lit x)
      have s2 : wr.heap.size < ((wr.alloc (.cells Try.zeroCells118 118)).setRow wr.heap.size (elArr x)).heap.size := by simp
      have HB' := Lib.hid HB; clear HB
      have b2' := Lib.hid b2; clear b2
      have t2' := Lib.hid t2; clear t2
      have r1' := Lib.hid r1; clear r1
      have r2' := Lib.hid r2; clear r2
      have r4' := Lib.hid r4; clear r4
      have hx' := Lib.hid hx; clear hx hrg hrg2
      go_upto_region 5 with (refine wpList_store_row rfl 118 (.tmp 5) (.tmp 11) rfl wr.heap.size (elArr x) rfl rfl 118 Try.zeroCells118 HB'.out (sizeEl' _) (by rw [zero_elC, size_elArr, size_elArr]) (one_elArr _) ?_)
      generalize ((wr.alloc (.cells Try.zeroCells118 118)).setRow wr.heap.size (elArr x)) = W2 at *
      clear HB' q5 q6 hcv
      have hcv := t2'.out.conv
      have hbs2 : bs (strOfNums (acc.map fun c : Nat => (c : Int))) = acc := bs_nums fun c hc => by have := r3'.out c hc; omega
      generalize strOfNums (acc.map fun c : Nat => (c : Int)) = st2 at *
      have hbs2' := Lib.hid hbs2; clear hbs2 hbs'
      by_cases h0 : x.lit = 0
      · have hz : ((x.lit : Int) == 0) = true := by rw [h0]; rfl
        have hz2 : (x.lit : Int) = 0 := by rw [h0]; rfl
        have hfin := r2'.out.stop hx'.out h0
        have hfin' := Lib.hid hfin; clear hfin h0
        go_wp2_with fail
        go_ret
        exact ⟨st2, rfl, by rw [hfin'.out]; exact hbs2'.out, b2'.out⟩
      · have hz : ((x.lit : Int) == 0) = false := by rw [beq_eq_false_iff_ne]; omega
        have hz2 : ¬ (x.lit : Int) = 0 := by omega
        have hpr : x.lit ≤ 126 := by
          rcases hok with h | ⟨h, _⟩
          · exact absurd h h0
          · simp only [G.pr, Bool.and_eq_true, decide_eq_true_eq] at h
            exact h.2
        have hb0 : (0 : Int) ≤ (x.lit : Int) := by omega
        have hb255 : (x.lit : Int) ≤ 255 := by omega
        have hmore := r2'.out.more hx'.out h0
        have hmore' := Lib.hid hmore; clear hmore h0
        obtain ⟨pt, ct, rfl⟩ := t2'.out.form
        have hw2 := b2'.out.size
        go_wp2_with (first
          | (at_builtin
             refine wpList_append_lies _ rfl (.tmp 15) (.tmp 18) 88 rfl w.heap.size 5 j0 _ 1 1 Try.underlying88 hj0 hy0 hy1 hy2 rfl (by omega) _ acc.length (acc.map fun c : Nat => Value.int .u8 c) rfl (World.ownsRow.alloc t2'.out _) ⟨W2.heap.size, 0, none⟩ 1 1 [.int .u8 x.lit] rfl rfl (pos_u8 W2 x.lit) (by simp [Value.oneCell']) (by omega) (by unfold maxLen; omega) (by omega) (by simp; omega) (W2.heap.size + 1) (by simp) ?_
             intro ga capa w6 own6 grow6 lies6 lt6
             have own6' := Lib.hid own6; clear own6
             have grow6' := Lib.hid grow6; clear grow6 lies6)
          | fail)
        have hrow : ∀ i, Value.ownBlock _ = some i → w.heap.size ≤ i := fun i hi => (World.ownsRow.lt t2'.out i hi).1
        have hfin : TextRow w6 w.heap.size (.slice (some ⟨ga, 0, none⟩) (acc.length + 1) capa) (acc ++ [x.lit]) := by
          unfold TextRow
          rw [List.length_append, List.length_singleton, List.map_append]
          exact own6'.out
        have hb6 : Below w.heap.size w w6 := b2'.out.trans ((((Only.refl (fun k => w.heap.size ≤ k) W2).alloc (.cells #[.int .u8 x.lit] 5)).step (only_grown grow6'.out) fun i hi => .inl (hrow i hi)).below (fun k hk => hk) hw2)
        go_roundw
        case rel => exact ⟨k + 1, acc ++ [x.lit], by go_num, hfin, hmore'.out, fun c hc => by
          rcases List.mem_append.1 hc with hc | hc
          · exact r3'.out c hc
          · simp only [List.mem_singleton] at hc
            omega, hb6⟩
        case measure => simp [intOf]; omega
    · obtain rfl : k = l.length := by omega
      have hfin := r2.end_
      have hfin' := Lib.hid hfin; clear hfin
      have r4' := Lib.hid r4; clear r4
      clear r1 r2
      go_wp2_with fail
      go_ret
      exact ⟨st, rfl, by rw [hfin'.out]; exact hbs'.out, r4'.out⟩

end Go.Proofs.Ytfihccfjboopiaa
