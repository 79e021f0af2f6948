/-
  THE WALK of coldpluglaw08.known.
-/
import Derived.Test.YtofemhaepadggaaDoorLexSame
namespace Go.Proofs.YtofemhaepadggaaDoor
open Go.RowKit

def knT1 : ByteArray := ⟨#[97, 92, 10, 32, 98, 10, 35, 32, 99, 10, 10, 100]⟩
def knT2 : ByteArray := ⟨#[75, 69, 82, 78, 69, 76, 61, 61, 34, 115, 100, 42, 34, 44, 32, 69, 78, 86, 123, 73, 68, 125, 61, 34, 97, 92, 34, 98, 34]⟩
theorem know1 : linesS knT1 = [(1, ⟨#[97, 32, 98]⟩), (5, ⟨#[100]⟩)] := by decide +kernel
theorem know2 : L.tokensS (bs knT2) = ([⟨[75, 69, 82, 78, 69, 76], [], [61, 61], [115, 100, 42]⟩, ⟨[69, 78, 86], [73, 68], [61], [97, 34, 98]⟩], 0) := by decide +kernel
def knL : List TB := [⟨⟨#[75, 69, 82, 78, 69, 76]⟩, ⟨#[]⟩, ⟨#[61, 61]⟩, ⟨#[115, 100, 42]⟩⟩, ⟨⟨#[69, 78, 86]⟩, ⟨#[73, 68]⟩, ⟨#[61]⟩, ⟨#[97, 34, 98]⟩⟩]
theorem know3 : knL.map TB.tok = (L.tokensS (bs knT2)).1 := by decide +kernel

set_option maxRecDepth 100000 in
set_option maxHeartbeats 1000000 in
theorem lknown_any (w : World) (m : Int) (hm : w.cell? ⟨0, 0, none⟩ = some (.int .i64 m)) : Calls Tryd.prog 15 #[] w fun e w' => e = .returned (.bool true) ∧ Below w.heap.size w w' := by
  have hL := lines_any knT1 m w (by decide) hm
  rw [know1] at hL
  have hT := fun W => tokens_any knT2 W
  have hL' := Lib.hid hL; clear hL
  have hT' := Lib.hid hT; clear hT hm
  go_enter Tryd.func15, Tryd.ntmps15
  go_wp2_with fail
  refine hL'.out.mono ?_
  rintro e v1 ⟨⟨va, rfl, ha⟩, hb1⟩
  have ha' := Lib.hid ha; clear ha
  have hb1' := Lib.hid hb1; clear hb1 hL'
  go_wp2_with fail
  refine (hT'.out v1).mono ?_
  rintro e v2 ⟨⟨vb, lb, rfl, hlb, hb⟩, hb2⟩
  obtain rfl : lb = knL := toks_inj (hlb.trans know3.symm)
  have h20 : (L.tokensS (bs knT2)).2 = 0 := by rw [know2]
  rw [h20]
  have hbb : Below w.heap.size w v2 := hb1'.out.trans (hb2.mono hb1'.out.size)
  have ha2 : Lns v2 _ va _ := own_below ha'.out hb2
  have hbb' := Lib.hid hbb; clear hbb hb2 hb1' ha' hT' hlb h20
  obtain ⟨pa, ca, rfl, hA⟩ := ha2.shape
  obtain ⟨ga, rfl, hga, hA1⟩ := hA (by decide)
  obtain ⟨pb, cb, rfl, hB⟩ := hb.shape
  obtain ⟨gb, rfl, hgb, hB1⟩ := hB (by decide)
  obtain ⟨c0, c1⟩ := hA1 0 _ rfl
  obtain ⟨c2, c3⟩ := hA1 1 _ rfl
  obtain ⟨d0, d1, d2, d3⟩ := hB1 1 _ rfl
  clear hA hB hA1 hB1 ha2 hb
  simp only at c0 c1 c2 c3 d0 d1 d2 d3
  go_wp2_with fail
  go_ret
  exact ⟨rfl, hbb'.out⟩

end Go.Proofs.YtofemhaepadggaaDoor
