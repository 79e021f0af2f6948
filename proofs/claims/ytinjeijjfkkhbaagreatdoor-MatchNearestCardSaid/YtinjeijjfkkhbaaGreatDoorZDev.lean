/-
  THE WALKS of coldplugworld.Attrs, Contents, Device (at any tree).
-/
import Derived.Test.YtinjeijjfkkhbaaGreatDoorZOrigin
import Derived.Deep.AppendLies
import Derived.Deep.LoopGhost
namespace Go.Proofs.YtinjeijjfkkhbaaGreatDoor
open Go.RowKit

def tAn : List ByteArray := [⟨#[115, 105, 122, 101]⟩, ⟨#[118, 101, 110, 100, 111, 114]⟩, ⟨#[97, 100, 100, 114, 101, 115, 115]⟩, ⟨#[105, 110, 100, 101, 120]⟩, ⟨#[115, 108, 111, 116]⟩]
def tAv : List ByteArray := [⟨#[49]⟩, ⟨#[50]⟩, ⟨#[97, 99, 109, 101]⟩, ⟨#[97, 97, 58, 98, 98]⟩]
def tSub : List ByteArray := [⟨#[98, 108, 111, 99, 107]⟩, ⟨#[117, 115, 98]⟩, ⟨#[110, 101, 116]⟩, ⟨#[112, 99, 105]⟩]
def tDrv : List ByteArray := [⟨#[]⟩, ⟨#[]⟩, ⟨#[104, 105, 100]⟩, ⟨#[110, 105, 99]⟩]
def tAli : List ByteArray := [⟨#[]⟩, ⟨#[117, 115, 98, 58, 118, 49]⟩, ⟨#[112, 99, 105, 58, 100, 50]⟩, ⟨#[117, 115, 98, 58, 118, 50]⟩]
def tNet : List ByteArray := [⟨#[101, 116, 104, 48]⟩, ⟨#[101, 116, 104, 49]⟩, ⟨#[119, 108, 97, 110, 48]⟩]
def tBlk : List ByteArray := [⟨#[115, 100, 97]⟩, ⟨#[115, 100, 98]⟩, ⟨#[115, 100, 97, 49]⟩, ⟨#[115, 100, 97, 50]⟩, ⟨#[99, 33, 100, 48]⟩]
def tChr : List ByteArray := [⟨#[116, 116, 121, 48]⟩, ⟨#[116, 116, 121, 49]⟩, ⟨#[105, 110, 112, 117, 116, 33, 101, 118, 48]⟩]
def tPln : List ByteArray := [⟨#[112, 99, 105, 48]⟩, ⟨#[117, 115, 98, 49]⟩, ⟨#[49, 45, 49]⟩, ⟨#[112, 111, 114, 116]⟩]
def tCon : List ByteArray := [⟨#[]⟩, ⟨#[102, 115, 58, 117, 49, 58, 114, 111, 111, 116]⟩, ⟨#[102, 115, 58, 117, 50, 58]⟩, ⟨#[114, 97, 105, 100, 58, 114, 49, 58, 49, 47, 50, 47, 49, 40, 102, 115, 58, 117, 51, 58, 100, 97, 116, 97, 41]⟩, ⟨#[114, 97, 105, 100, 58, 114, 49, 58, 50, 47, 50, 47, 49, 40, 102, 115, 58, 117, 51, 58, 100, 97, 116, 97, 41]⟩, ⟨#[99, 114, 121, 112, 116, 58, 99, 49, 40, 102, 115, 58, 117, 52, 58, 41]⟩, ⟨#[112, 118, 58, 103, 49, 58, 49, 47, 49, 40, 102, 115, 58, 117, 53, 58, 44, 41]⟩, ⟨#[116, 97, 98, 108, 101, 58, 116, 49, 40, 102, 115, 58, 117, 54, 58, 98, 111, 111, 116, 44, 114, 97, 105, 100, 58, 114, 49, 58, 50, 47, 50, 47, 49, 40, 102, 115, 58, 117, 51, 58, 100, 97, 116, 97, 41, 41]⟩, ⟨#[98, 97, 100, 40]⟩]

/-- The properties lie in a block of their own, ahead of Bt and not in these. -/
def PvOk (w : World) (Bt g rb db : Nat) (pv : Value) (pl : List Att) : Prop := RowAt w pv 2 (pl.map attC) ∧ ∀ b o n c, pv = .slice (some ⟨b, o, none⟩) n c → b ≠ g ∧ b ≠ rb ∧ b ≠ db ∧ b < Bt
theorem tape_drew {w : World} {B g q : Nat} (h : Tape w B g q) : Tape w.drew B g q := h
theorem dyn_mem {og nm : ByteArray} (h : og.size ≤ 100) (hm : nm ∈ [og, og, ⟨#[108, 97, 110, 48]⟩, ⟨#[101, 116, 104, 49]⟩]) : nm.size ≤ 100 := by
  simp only [List.mem_cons, List.not_mem_nil, or_false] at hm
  rcases hm with rfl | rfl | rfl | rfl
  · exact h
  · exact h
  · decide
  · decide
theorem sub_net : (⟨#[110, 101, 116]⟩ : ByteArray).size ≤ 100 := by decide
theorem sub_blk : (⟨#[98, 108, 111, 99, 107]⟩ : ByteArray).size ≤ 100 := by decide
theorem neat_of {l : List Att} {pp : Option Addr} {cc : Nat} (h : l = [] → Value.slice pp l.length cc = .slice none 0 0) (hl : l.length ≤ 1000) : Neat l pp l.length cc :=
  ⟨rfl, fun e => by
    have := h e
    injection this with h1 h2 h3
    exact ⟨h1, h3⟩, by omega⟩
/-- What is said of the device made. -/
structure NewDev (w' : World) (g : Nat) (M : Int) (l : List Dev) (d : Dev) : Prop where
  dat : DevAt w' d
  fit : DevFit d
  off : DevOff g d
  sm : DevSm d
  neat : Neat d.att d.aa d.an d.ac
  above : ∀ x ∈ l, x.idx < d.idx
  par0 : 0 ≤ d.par
  par : d.par < d.idx
  lo : 1 ≤ d.idx
  hi : d.idx ≤ M + 1
theorem one_at (B g k n c m : Nat) (L : List ByteArray) (W : World) (hm : W.heap.size = m) (hT : Tape W B g k) (hk : k ≤ 1000000) (hlen : L.length = n) (hn : 1 ≤ n) (hn2 : n ≤ 1000) :
    Calls Tryz.prog 20 #[.pointer (some ⟨g, 0, none⟩), .slice (some ⟨m, 0, none⟩) n c] (W.alloc (.cells (L.map Value.string).toArray 9)) fun e w' => (∃ s, s ∈ L ∧ e = .returned (.string s)) ∧ Tape w' B g (k + 1) ∧ Only (fun j => j = g) W w' := by
  subst hm
  exact one_new B g k n c L W hT hk hlen hn hn2
theorem AttsOwn.shape {w : World} {B : Nat} {v : Value} {l : List Att} (h : AttsOwn w B v l) : ∃ p c, v = .slice p l.length c := by
  have h' : w.ownsRow B 50 2 v l.length (flatA l) := h.2
  rcases h'.2 with ⟨rfl, h0⟩ | ⟨g, cap, cur, rfl, _⟩
  · exact ⟨none, 0, by rw [h0]⟩
  · exact ⟨_, _, rfl⟩
def AttrsPost (B g q0 : Nat) (w : World) (e : Ending) (w' : World) : Prop := ∃ (v : Value) (l : List Att) (q : Nat), e = .returned v ∧ AttsOwn w' w.heap.size v l ∧ AttSm l ∧ l.length ≤ 7 ∧ q ≤ q0 + 7 ∧ Tape w' B g q ∧ Only (fun j => j = g) w w'

set_option maxRecDepth 100000 in
set_option maxHeartbeats 4000000 in
theorem mattrs_any (B g q0 : Nat) (w : World) (hT : Tape w B g q0) (hq0 : q0 ≤ 100000) :
    Calls Tryz.prog 44 #[.pointer (some ⟨g, 0, none⟩)] w fun e w' => AttrsPost B g q0 w e w' := by
  have hlt : g < w.heap.size := hT.lt.2
  have hT' := Lib.hid hT; clear hT
  have hC := Lib.hid (next_any B g q0 4 w hT'.out (by omega) (by omega) (by omega))
  go_enter Tryz.func44, Tryz.ntmps44
  go_wp2_with fail
  refine hC.out.mono ?_
  rintro e x1 ⟨⟨r, hr, rfl⟩, hTx, hOx⟩
  have hT1 := Lib.hid hTx
  have hO1 := Lib.hid hOx
  clear hTx hOx hC hT'
  go_wp2_with fail
  go_loopw [3, 4] (fun s3 s4 wr => ∃ (k q : Nat) (l : List Att), s4 = .int .i64 k ∧ ((k = 3 ∧ l.length ≤ 0) ∨ (k = 2 ∧ l.length ≤ 1) ∨ (k = 1 ∧ l.length ≤ 3) ∨ (k = 0 ∧ l.length ≤ 7)) ∧ q + 2 * k ≤ q0 + 7 ∧ Hid (AttSm l) ∧ Hid (AttsOwn wr w.heap.size s3 l) ∧ Hid (Tape wr B g q) ∧ Hid (Only (fun j => j = g) w wr)) (fun _ s4 _ => (intOf s4).toNat)
  case atStart => exact ⟨r, q0 + 1, [], rfl, by simp; omega, by omega, (show AttSm [] from fun a ha => by cases ha), ⟨fun _ => rfl, World.ownsRow_nil _ _ _ _⟩, hT1, hO1⟩
  case round =>
    clear hT1 hO1
    obtain ⟨k, q, l, rfl, hk, hq, hsm, hown, hT, hO⟩ := hrel
    by_cases hk0 : 0 < k
    · have ik : (0 : Int) < (k : Int) := by omega
      have hC := Lib.hid (one_new B g q 5 5 tAn _ hT.out (by omega) rfl (by omega) (by omega))
      have hnb := Lib.hid (fun j hj => (World.ownsRow.lt hown.out.2 j hj).1)
      go_wp2_with fail
      refine hC.out.mono ?_
      rintro e x2 ⟨⟨s1, hs1, rfl⟩, hTx, hOx⟩
      have hs1' := Lib.hid (sml_mem (L := tAn) rfl hs1)
      have hT2 := Lib.hid hTx
      have hO2 := Lib.hid (hO.out.trans hOx)
      have hown2 : Hid (AttsOwn x2 w.heap.size u3 l) := ⟨hown.out.1, own_only hown.out.2 hOx fun j hj e => by have := hnb.out j hj; omega⟩
      clear hTx hOx hs1 hC hT hO hown
      have hC := Lib.hid (one_new B g (q + 1) 4 4 tAv _ hT2.out (by omega) rfl (by omega) (by omega))
      go_wp2_with fail
      refine hC.out.mono ?_
      rintro e x3 ⟨⟨s2, hs2, rfl⟩, hTx, hOx⟩
      have hs2' := Lib.hid (sml_mem (L := tAv) rfl hs2)
      have hT3 := Lib.hid hTx
      have hO3 := Lib.hid (hO2.out.trans hOx)
      have hown3 : Hid (AttsOwn x3 w.heap.size u3 l) := ⟨hown2.out.1, own_only hown2.out.2 hOx fun j hj e => by have := hnb.out j hj; omega⟩
      clear hTx hOx hs2 hC hT2 hO2 hown2 hnb
      have hC := Lib.hid (rset3_any l u3 s1 s2 x3 (AttsOwn.row hown3.out (by omega)) hsm.out (by omega) hs1'.out hs2'.out)
      go_wp2_with fail
      refine hC.out.mono ?_
      rintro e x4 ⟨u, m, rfl, hom, hsm2, hlm, hbx⟩
      have hom' : Hid (AttsOwn x4 w.heap.size u m) := ⟨hom.1, own_mono hom.2 hO3.out.size⟩
      have hsm2' := Lib.hid hsm2
      have hT4 := Lib.hid (hT3.out.below hbx)
      have hO4 : Hid (Only (fun j => j = g) w x4) := hO3.out.step (Only.of_below (S := fun _ => False) hbx fun k h1 h2 => by omega) fun i hi => hi.elim
      clear hom hsm2 hbx hC hT3 hO3 hown3 hsm
      go_wp2_with fail
      go_roundw
      case rel => exact ⟨k - 1, q + 2, m, by go_num, by omega, by omega, hsm2', hom', hT4, hO4⟩
      case measure => simp [intOf]; omega
    · obtain rfl : k = 0 := by omega
      go_wp2_with fail
      go_ret
      exact ⟨_, l, q, rfl, hown.out, hsm.out, by omega, by omega, hT.out, hO.out⟩

theorem mcontents_any (w : World) : Calls Tryz.prog 46 #[] w fun e w' => e = .returned (.slice (some ⟨w.heap.size, 0, none⟩) 9 9) ∧ w' = w.alloc (.cells (tCon.map Value.string).toArray 9) := by
  go_enter Tryz.func46, Tryz.ntmps46
  go_wp2_with fail
  go_ret
  exact ⟨rfl, rfl⟩

/-- What holds while a device is made: the result's block rb, the device's block db. -/
structure DS (w W : World) (rb db B g q : Nat) (cs : Array Value) (v : Value) (l : List Att) : Prop where
  res : Blk W rb 40 #[.int .i64 0, .int .i64 0, .string ⟨#[]⟩, .string ⟨#[]⟩, .string ⟨#[]⟩, .string ⟨#[]⟩, .string ⟨#[]⟩, .int .i64 0, .int .i64 0, .slice none 0 0]
  dev : Blk W db 40 cs
  tape : Tape W B g q
  only : Only (fun j => j = g) w W
  att : PvOk W W.heap.size g rb db v l
  gw : g < w.heap.size
  rw_ : w.heap.size ≤ rb
  dr : rb < db
theorem PvOk.only {w w' : World} {Bt g rb db : Nat} {v : Value} {l : List Att} (h : PvOk w Bt g rb db v l) (ho : Only (fun j => j = g ∨ j = rb ∨ j = db) w w') (hB : Bt ≤ w.heap.size) : PvOk w' w'.heap.size g rb db v l := by
  refine ⟨h.1.same ho.size fun b o n c e => ?_, fun b o n c e => ?_⟩
  · obtain ⟨h1, h2, h3, h4⟩ := h.2 b o n c e
    exact ho.block b (by omega) (by omega)
  · obtain ⟨h1, h2, h3, h4⟩ := h.2 b o n c e
    have := ho.size
    exact ⟨h1, h2, h3, by omega⟩
theorem DS.call {w W W' : World} {rb db B g q q' : Nat} {cs : Array Value} {v : Value} {l : List Att} (h : DS w W rb db B g q cs v l) (hT : Tape W' B g q') (hO : Only (fun j => j = g) W W') : DS w W' rb db B g q' cs v l where
  res := h.res.only hO (by have := h.gw; have := h.rw_; omega)
  dev := h.dev.only hO (by have := h.gw; have := h.rw_; have := h.dr; omega)
  tape := hT
  only := h.only.trans hO
  att := h.att.only (hO.mono fun j e => .inl e) (Nat.le_refl _)
  gw := h.gw
  rw_ := h.rw_
  dr := h.dr
theorem DS.below {w W W' : World} {rb db B g q : Nat} {cs : Array Value} {v : Value} {l : List Att} (h : DS w W rb db B g q cs v l) (hb : Below W.heap.size W W') : DS w W' rb db B g q cs v l :=
  h.call (h.tape.below hb) (Only.of_below hb fun k h1 h2 => by omega)
theorem DS.store {w W : World} {rb db B g q : Nat} {cs : Array Value} {v : Value} {l : List Att} (h : DS w W rb db B g q cs v l) (i : Nat) (u : Value) : DS w (W.setCell ⟨db, i, none⟩ u) rb db B g q (cs.setIfInBounds i u) v l := by
  have h1 := h.gw
  have h2 := h.rw_
  have h3 := h.dr
  have hOw : Only (fun j => j = db) W (W.setCell ⟨db, i, none⟩ u) := Only.setCell (S := fun j => j = db) (Only.refl _ _) (p := ⟨db, i, none⟩) (.inl rfl) _
  exact ⟨h.res.only hOw (by omega), h.dev.store i u, h.tape.only hOw (by omega) (fun j e => by have := h.tape.lt; omega), h.only.step hOw fun j e => .inr (by omega), h.att.only (hOw.mono fun j e => .inr (.inr e)) (Nat.le_refl _), h1, h2, h3⟩
/-- A new list of attributes, laid into the device. -/
theorem DS.set {w W W2 : World} {rb db B g q q' : Nat} {cs : Array Value} {v u : Value} {l m : List Att} {y1 : World} (h : DS w W rb db B g q cs v l) (hT : Tape y1 B g q') (hO : Only (fun j => j = g) W y1) (hb : Below y1.heap.size y1 W2) (hown : AttsOwn W2 y1.heap.size u m) (hm : m.length ≤ 1000) (i : Nat) :
    DS w (W2.setCell ⟨db, i, none⟩ u) rb db B g q' (cs.setIfInBounds i u) u m := by
  have h0 := (h.call hT hO).below hb
  have hdb := (h.call hT hO).dev.lt
  have h2 := h.rw_
  have h1 := h.gw
  have h3 := h.dr
  have hown' : W2.ownsRow y1.heap.size 50 2 u m.length (flatA m) := hown.2
  have hq : PvOk W2 W2.heap.size g rb db u m := by
    refine ⟨AttsOwn.row hown (by omega), fun b o n c e => ?_⟩
    have := World.ownsRow.lt hown' b (by rw [e]; rfl)
    omega
  exact DS.store ⟨h0.res, h0.dev, h0.tape, h0.only, hq, h1, h2, h3⟩ i u

theorem DS.done {w W : World} {rb db B g q : Nat} {idx par kind num : Int} {nm og sub drv ali : ByteArray} {p : Option Addr} {n c : Nat} {l : List Att} (h : DS w W rb db B g q #[.int .i64 idx, .int .i64 par, .string nm, .string og, .string sub, .string drv, .string ali, .int .i64 kind, .int .i64 num, .slice p n c] (.slice p n c) l) (hs : AttSm l) (ho : og.size ≤ 100) (hsu : sub.size ≤ 100) (hd : drv.size ≤ 100) :
    Blk (W.setRow rb #[.int .i64 idx, .int .i64 par, .string nm, .string og, .string sub, .string drv, .string ali, .int .i64 kind, .int .i64 num, .slice p n c]) rb 40 #[.int .i64 idx, .int .i64 par, .string nm, .string og, .string sub, .string drv, .string ali, .int .i64 kind, .int .i64 num, .slice p n c] ∧
    DevAt (W.setRow rb #[.int .i64 idx, .int .i64 par, .string nm, .string og, .string sub, .string drv, .string ali, .int .i64 kind, .int .i64 num, .slice p n c]) ⟨idx, par, nm, og, sub, drv, ali, kind, num, p, n, c, l⟩ ∧ DevFit ⟨idx, par, nm, og, sub, drv, ali, kind, num, p, n, c, l⟩ ∧ DevOff g ⟨idx, par, nm, og, sub, drv, ali, kind, num, p, n, c, l⟩ ∧ Tape (W.setRow rb #[.int .i64 idx, .int .i64 par, .string nm, .string og, .string sub, .string drv, .string ali, .int .i64 kind, .int .i64 num, .slice p n c]) B g q ∧ Only (fun j => j = g) w (W.setRow rb #[.int .i64 idx, .int .i64 par, .string nm, .string og, .string sub, .string drv, .string ali, .int .i64 kind, .int .i64 num, .slice p n c]) := by
  have h1 := h.gw
  have h2 := h.rw_
  have h3 := h.dr
  have hOw : Only (fun j => j = rb) W (W.setRow rb #[.int .i64 idx, .int .i64 par, .string nm, .string og, .string sub, .string drv, .string ali, .int .i64 kind, .int .i64 num, .slice p n c]) := Only.setRow (S := fun j => j = rb) (Only.refl _ _) (g := rb) (.inl rfl) _
  have ha := h.att.only (hOw.mono fun j e => .inr (.inl e)) (Nat.le_refl _)
  refine ⟨h.res.row _, ha.1, ⟨?_, ?_, ?_, fun x hx => ?_⟩, fun b o n c e => (ha.2 b o n c e).1, h.tape.only hOw (by omega) (fun j e => by have := h.tape.lt; omega), h.only.step hOw fun j e => .inr (by omega)⟩
  · show og.size ≤ _
    omega
  · show sub.size ≤ _
    omega
  · show drv.size ≤ _
    omega
  · have := hs x hx
    omega

set_option maxRecDepth 100000 in
set_option maxHeartbeats 8000000 in
theorem zdevice_any (l : List Dev) (p : Option Addr) (n c : Nat) (M : Int) (B g q0 : Nat) (w : World) (hl : RowAt w (.slice p n c) 10 (l.map devC)) (hoff : Off g (.slice p n c)) (hn : n ≤ 1000) (hln : l.length = n) (hM : 0 ≤ M) (hM2 : M ≤ 1000) (hidx : ∀ x ∈ l, 1 ≤ x.idx ∧ x.idx ≤ M) (hT : Tape w B g q0) (hq0 : q0 ≤ 90000) :
    Calls Tryz.prog 18 #[.pointer (some ⟨g, 0, none⟩), .agg #[.slice p n c]] w fun e w' => ∃ (d : Dev) (q : Nat), e = .returned (devV d) ∧ q ≤ q0 + 22 ∧ NewDev w' g M l d ∧ Tape w' B g q ∧ Only (fun j => j = g) w w' := by
  have hl' := Lib.hid (fun (W : World) (h : Only (fun j => j = g) w W) => hl.only h hoff)
  have hidx' := Lib.hid hidx
  have hln' := Lib.hid hln
  clear hl hoff hidx hln
  have hlt : g < w.heap.size := hT.lt.2
  have hBg : B ≤ g := hT.lt.1
  have hb0 : Below w.heap.size w ((w.alloc (.cells #[.slice p n c] 30)).alloc (.cells #[.int .i64 0, .int .i64 0, .string ⟨#[]⟩, .string ⟨#[]⟩, .string ⟨#[]⟩, .string ⟨#[]⟩, .string ⟨#[]⟩, .int .i64 0, .int .i64 0, .slice none 0 0] 40)) := ((Below.refl _ _).alloc (Nat.le_refl _) _).alloc (by simp) _
  have hXa : Hid (Blk ((w.alloc (.cells #[.slice p n c] 30)).alloc (.cells #[.int .i64 0, .int .i64 0, .string ⟨#[]⟩, .string ⟨#[]⟩, .string ⟨#[]⟩, .string ⟨#[]⟩, .string ⟨#[]⟩, .int .i64 0, .int .i64 0, .slice none 0 0] 40)) w.heap.size 30 #[.slice p n c]) := (Blk.new _ _ _).alloc _
  have hRa : Hid (Blk ((w.alloc (.cells #[.slice p n c] 30)).alloc (.cells #[.int .i64 0, .int .i64 0, .string ⟨#[]⟩, .string ⟨#[]⟩, .string ⟨#[]⟩, .string ⟨#[]⟩, .string ⟨#[]⟩, .int .i64 0, .int .i64 0, .slice none 0 0] 40)) (w.heap.size + 1) 40 #[.int .i64 0, .int .i64 0, .string ⟨#[]⟩, .string ⟨#[]⟩, .string ⟨#[]⟩, .string ⟨#[]⟩, .string ⟨#[]⟩, .int .i64 0, .int .i64 0, .slice none 0 0]) := Blk.new_ _ _ _ (by simp)
  have hTa : Hid (Tape ((w.alloc (.cells #[.slice p n c] 30)).alloc (.cells #[.int .i64 0, .int .i64 0, .string ⟨#[]⟩, .string ⟨#[]⟩, .string ⟨#[]⟩, .string ⟨#[]⟩, .string ⟨#[]⟩, .int .i64 0, .int .i64 0, .slice none 0 0] 40)) B g q0) := hT.below hb0
  have hOa : Hid (Only (fun j => j = g) w ((w.alloc (.cells #[.slice p n c] 30)).alloc (.cells #[.int .i64 0, .int .i64 0, .string ⟨#[]⟩, .string ⟨#[]⟩, .string ⟨#[]⟩, .string ⟨#[]⟩, .string ⟨#[]⟩, .int .i64 0, .int .i64 0, .slice none 0 0] 40))) := ((Only.refl _ _).alloc _).alloc _
  have hsz : ((w.alloc (.cells #[.slice p n c] 30)).alloc (.cells #[.int .i64 0, .int .i64 0, .string ⟨#[]⟩, .string ⟨#[]⟩, .string ⟨#[]⟩, .string ⟨#[]⟩, .string ⟨#[]⟩, .int .i64 0, .int .i64 0, .slice none 0 0] 40)).heap.size = w.heap.size + 2 := by simp
  have hC := Lib.hid (one_at B g q0 4 4 (w.heap.size + 2) tSub ((w.alloc (.cells #[.slice p n c] 30)).alloc (.cells #[.int .i64 0, .int .i64 0, .string ⟨#[]⟩, .string ⟨#[]⟩, .string ⟨#[]⟩, .string ⟨#[]⟩, .string ⟨#[]⟩, .int .i64 0, .int .i64 0, .slice none 0 0] 40)) hsz hTa.out (by omega) rfl (by omega) (by omega))
  clear hT hb0 hsz
  go_enter Tryz.func18, Tryz.ntmps18
  go_wp2_with fail
  refine hC.out.mono ?_
  rintro e x1 ⟨⟨s1, hs1, rfl⟩, hTx, hOx⟩
  have hs1' := Lib.hid (sml_mem (L := tSub) rfl hs1)
  have hXx1 := Lib.hid (hXa.out.only hOx (by omega))
  have hRx1 := Lib.hid (hRa.out.only hOx (by omega))
  have hTx1 := Lib.hid hTx
  have hOx1 := Lib.hid (hOa.out.trans hOx)
  clear hTx hOx hC hs1 hXa hRa hTa hOa
  have hC := Lib.hid (next_any B g (q0 + 1) 4 _ hTx1.out (by omega) (by omega) (by omega))
  go_wp2_with fail
  refine hC.out.mono ?_
  rintro e x2 ⟨⟨r, hr, rfl⟩, hTx, hOx⟩
  have hXx2 := Lib.hid (hXx1.out.only hOx (by omega))
  have hRx2 := Lib.hid (hRx1.out.only hOx (by omega))
  have hTx2 := Lib.hid hTx
  have hOx2 := Lib.hid (hOx1.out.trans hOx)
  clear hTx hOx hC hXx1 hRx1 hTx1 hOx1
  have hC := Lib.hid (one_new B g (q0 + 2) 4 4 tDrv _ hTx2.out (by omega) rfl (by omega) (by omega))
  go_wp2_with fail
  refine hC.out.mono ?_
  rintro e x3 ⟨⟨s2, hs2, rfl⟩, hTx, hOx⟩
  have hs2' := Lib.hid (sml_mem (L := tDrv) rfl hs2)
  have hXx3 := Lib.hid (hXx2.out.only hOx (by omega))
  have hRx3 := Lib.hid (hRx2.out.only hOx (by omega))
  have hTx3 := Lib.hid hTx
  have hOx3 := Lib.hid (hOx2.out.trans hOx)
  clear hTx hOx hC hs2 hXx2 hRx2 hTx2 hOx2
  have hC := Lib.hid (one_new B g (q0 + 3) 4 4 tAli _ hTx3.out (by omega) rfl (by omega) (by omega))
  go_wp2_with fail
  refine hC.out.mono ?_
  rintro e x4 ⟨⟨s3, hs3, rfl⟩, hTx, hOx⟩
  have hs3' := Lib.hid (sml_mem (L := tAli) rfl hs3)
  have hXx4 := Lib.hid (hXx3.out.only hOx (by omega))
  have hRx4 := Lib.hid (hRx3.out.only hOx (by omega))
  have hTx4 := Lib.hid hTx
  have hOx4 := Lib.hid (hOx3.out.trans hOx)
  clear hTx hOx hC hs3 hXx3 hRx3 hTx3 hOx3
  have hC := Lib.hid (mattrs_any B g (q0 + 4) _ hTx4.out (by omega))
  go_wp2_with fail
  refine hC.out.mono ?_
  rintro e x5 ⟨av, al, q, rfl, hown, hsm, hll, hq, hTx, hOx⟩
  obtain ⟨pp, cc, rfl⟩ := hown.shape
  have hsm' := Lib.hid hsm
  have hNil := Lib.hid hown.1
  have hXx5 : Hid (Blk (x5.alloc (.cells #[.int .i64 1, .int .i64 0, .string ⟨#[]⟩, .string ⟨#[]⟩, .string s1, .string s2, .string s3, .int .i64 (1 + (r : Int)), .int .i64 0, .slice pp al.length cc] 40)) w.heap.size 30 #[.slice p n c]) := (hXx4.out.only hOx (by omega)).alloc _
  have hz5 : w.heap.size + 2 ≤ x4.heap.size := by have := hRx4.out.lt; omega
  have hz6 : x4.heap.size ≤ x5.heap.size := hOx.size
  have hS : Hid (DS w (x5.alloc (.cells #[.int .i64 1, .int .i64 0, .string ⟨#[]⟩, .string ⟨#[]⟩, .string s1, .string s2, .string s3, .int .i64 (1 + (r : Int)), .int .i64 0, .slice pp al.length cc] 40)) (w.heap.size + 1) x5.heap.size B g q #[.int .i64 1, .int .i64 0, .string ⟨#[]⟩, .string ⟨#[]⟩, .string s1, .string s2, .string s3, .int .i64 (1 + (r : Int)), .int .i64 0, .slice pp al.length cc] (.slice pp al.length cc) al) := by
    refine ⟨(hRx4.out.only hOx (by omega)).alloc _, Blk.new _ _ _, hTx.below ((Below.refl _ _).alloc (Nat.le_refl _) _), (hOx4.out.trans hOx).alloc _, ⟨(AttsOwn.row hown (by omega)).below ((Below.refl _ _).alloc (Nat.le_refl _) _), fun b o n c e => ?_⟩, hlt, by omega, by omega⟩
    have := World.ownsRow.lt hown.2 b (by rw [e]; rfl)
    have hsz : (x5.alloc (.cells #[.int .i64 1, .int .i64 0, .string ⟨#[]⟩, .string ⟨#[]⟩, .string s1, .string s2, .string s3, .int .i64 (1 + (r : Int)), .int .i64 0, .slice pp al.length cc] 40)).heap.size = x5.heap.size + 1 := by simp
    exact ⟨by omega, by omega, by omega, by omega⟩
  clear hown hsm hTx hOx hC hXx4 hRx4 hTx4 hOx4
  obtain ⟨db, hdb⟩ : ∃ db, x5.heap.size = db := ⟨_, rfl⟩
  rw [hdb] at hS hz6
  go_upto_region 2 with fail
  generalize x5.alloc (.cells #[.int .i64 1, .int .i64 0, .string ⟨#[]⟩, .string ⟨#[]⟩, .string s1, .string s2, .string s3, .int .i64 (1 + (r : Int)), .int .i64 0, .slice pp al.length cc] 40) = y at *
  go_wp2_with fail
  go_loopw [6] (fun s6 wr => ∃ (k : Nat) (idx : Int), s6 = .int .i64 k ∧ k ≤ n ∧ 1 ≤ idx ∧ idx ≤ M + 1 ∧ Hid (∀ x ∈ l.take k, x.idx < idx) ∧ Hid (DS w wr (w.heap.size + 1) db B g q #[.int .i64 idx, .int .i64 0, .string ⟨#[]⟩, .string ⟨#[]⟩, .string s1, .string s2, .string s3, .int .i64 (1 + (r : Int)), .int .i64 0, .slice pp al.length cc] (.slice pp al.length cc) al) ∧ Hid (Blk wr w.heap.size 30 #[.slice p n c])) (fun s6 _ => n - (intOf s6).toNat)
  case atStart => exact ⟨0, 1, rfl, by omega, by omega, by omega, (show ∀ x ∈ l.take 0, x.idx < 1 from fun x hx => by simp at hx), hS, hXx5⟩
  case round =>
    clear hS hXx5
    obtain ⟨k, idx, rfl, hk, hi1, hiM, hab, hS, hX⟩ := hrel
    have ik0 : (0 : Int) ≤ (k : Int) := by omega
    have cX := hX.out.cell 0
    simp only [List.getElem?_toArray, List.getElem?_cons_zero] at cX
    by_cases hkn : k < n
    · have ik : (k : Int) < (n : Int) := by omega
      have hrow := Lib.hid (hl'.out wr hS.out.only)
      obtain ⟨x, gx, ox, hx, rfl, hc⟩ := rowDev_cell hrow.out (Below.refl wr.heap.size wr) hkn
      have e0 := hc 0 _ rfl
      rw [Nat.add_zero] at e0
      have hxl := List.mem_of_getElem? hx
      have hxM := hidx'.out x hxl
      have hxM1 := hxM.1
      have hxM2 := hxM.2
      have hab2 : Hid (∀ z ∈ l.take (k + 1), z.idx < max idx (x.idx + 1)) := fun z hz => by
        rw [List.take_add_one, hx] at hz
        rcases List.mem_append.1 hz with hz | hz
        · have := hab.out z hz; omega
        · simp at hz; subst hz; omega
      have c0 := hS.out.dev.cell 0
      have f0 := hS.out.dev.frozen 0
      simp only [List.getElem?_toArray, List.getElem?_cons_zero] at c0
      have hS2 : Hid (DS w (wr.setCell ⟨db, 0, none⟩ (.int .i64 (max idx (x.idx + 1)))).drew (w.heap.size + 1) db B g q #[.int .i64 (max idx (x.idx + 1)), .int .i64 0, .string ⟨#[]⟩, .string ⟨#[]⟩, .string s1, .string s2, .string s3, .int .i64 (1 + (r : Int)), .int .i64 0, .slice pp al.length cc] (.slice pp al.length cc) al) := (hS.out.store 0 (.int .i64 (max idx (x.idx + 1)))).below (Below.refl _ _).drew
      have hX2 : Hid (Blk (wr.setCell ⟨db, 0, none⟩ (.int .i64 (max idx (x.idx + 1)))).drew w.heap.size 30 #[.slice (some ⟨gx, ox, none⟩) n c]) := Blk.only (S := fun j => j = db) hX.out ((Only.setCell (S := fun j => j = db) (Only.refl _ _) (p := ⟨db, 0, none⟩) (.inl rfl) _).drew) (by have := hS.out.rw_; have := hS.out.dr; omega)
      have hmx1 : 1 ≤ max idx (x.idx + 1) := by omega
      have hmx2 : max idx (x.idx + 1) ≤ M + 1 := by omega
      clear hc hx hxl hab hxM
      go_upto_region 5 with fail
      go_region_with (fail)
      all_goals
        go_wp2_with fail
        go_roundw
        case rel => exact ⟨k + 1, _, by go_num, by omega, hmx1, hmx2, hab2, hS2, hX2⟩
        case measure => simp [intOf]; omega
    · obtain rfl : k = n := by omega
      have hab' : Hid (∀ x ∈ l, x.idx < idx) := fun x hx => hab.out x (by rw [List.take_of_length_le (by have := hln'.out; omega)]; exact hx)
      clear hab
      go_upto_region 7 with fail
      go_cut [50] (fun s50 wx => ∃ (b : Bool) (q2 : Nat), s50 = .bool b ∧ (b = true → 0 < k) ∧ q2 ≤ q + 1 ∧ Hid (DS w wx (w.heap.size + 1) db B g q2 #[.int .i64 idx, .int .i64 0, .string ⟨#[]⟩, .string ⟨#[]⟩, .string s1, .string s2, .string s3, .int .i64 (1 + (r : Int)), .int .i64 0, .slice pp al.length cc] (.slice pp al.length cc) al) ∧ Hid (Blk wx w.heap.size 30 #[.slice p k c]))
      case first =>
        by_cases hk0 : 0 < k
        · have ik : (0 : Int) < (k : Int) := by omega
          have hC := Lib.hid (next_any B g q 4 _ hS.out.tape (by omega) (by omega) (by omega))
          go_wp2_with fail
          refine hC.out.mono ?_
          rintro e x6 ⟨⟨r2, hr2, rfl⟩, hTx, hOx⟩
          have hS6 := Lib.hid (hS.out.call hTx hOx)
          have hX6 := Lib.hid (hX.out.only hOx (by omega))
          clear hTx hOx hC cX hS hX
          go_wp2_with fail
          go_meet
          case rel => exact ⟨_, q + 1, rfl, fun _ => hk0, by omega, hS6, hX6⟩
        · obtain rfl : k = 0 := by omega
          go_wp2_with fail
          go_meet
          case rel => exact ⟨false, q, rfl, (fun e => by cases e), by omega, hS, hX⟩
      case rest =>
        obtain ⟨b, q2, rfl, hb0, hq2, hS2, hX2⟩ := hcut
        clear hS hX cX
        generalize wc = y6 at *
        go_upto_if 50 with fail
        go_cut [7] (fun s7 wx => s7 = .int .i64 k ∧ ∃ (par : Int) (q3 : Nat), 0 ≤ par ∧ par < idx ∧ q3 ≤ q + 2 ∧ Hid (DS w wx (w.heap.size + 1) db B g q3 #[.int .i64 idx, .int .i64 par, .string ⟨#[]⟩, .string ⟨#[]⟩, .string s1, .string s2, .string s3, .int .i64 (1 + (r : Int)), .int .i64 0, .slice pp al.length cc] (.slice pp al.length cc) al))
        case first =>
          cases b with
          | false =>
            go_wp2_with fail
            go_meet
            case rel => exact ⟨rfl, 0, q2, by omega, by omega, by omega, hS2⟩
          | true =>
            have hk0 := hb0 rfl
            have ik : (0 : Int) < (k : Int) := by omega
            have cX := hX2.out.cell 0
            simp only [List.getElem?_toArray, List.getElem?_cons_zero] at cX
            obtain ⟨x0, gx, ox, hx0, rfl, hc0⟩ := rowDev_cell (hl'.out y6 hS2.out.only) (Below.refl y6.heap.size y6) hk0
            clear hx0 hc0
            have hk1 : Hid (∀ Y, Only (fun j => j = g) y6 Y → Y.cell? ⟨w.heap.size, 0, none⟩ = some (.slice (some ⟨gx, ox, none⟩) k c)) := fun Y h => ((hX2.out.only h (by omega)).cell 0)
            have hC := Lib.hid (fun (Y : World) (h : Y = y6.drew) => (next_any B g q2 k Y (by rw [h]; exact tape_drew hS2.out.tape) (by omega) (by omega) (by omega)).mono fun e w' (h2 : (∃ r : Nat, r < k ∧ e = .returned (.int .i64 r)) ∧ Tape w' B g (q2 + 1) ∧ Only (fun j => j = g) Y w') => (show (∃ r : Nat, r < k ∧ e = .returned (.int .i64 r)) ∧ Tape w' B g (q2 + 1) ∧ Only (fun j => j = g) y6 w' from ⟨h2.1, h2.2.1, ((Only.refl _ y6).drew).trans (by rw [← h]; exact h2.2.2)⟩))
            have hel : Hid (∀ (Y : World) (j : Nat), Tape Y B g (q2 + 1) → Only (fun j => j = g) y6 Y → j < k → ∃ x : Dev, x ∈ l ∧ Y.cell? ⟨gx, ox + j * 10, none⟩ = some (.int .i64 x.idx) ∧ Y.frozen? ⟨db, 1, none⟩ = false ∧ Y.cell? ⟨db, 1, none⟩ = some (.int .i64 0) ∧ Hid (DS w (Y.setCell ⟨db, 1, none⟩ (.int .i64 x.idx)) (w.heap.size + 1) db B g (q2 + 1) #[.int .i64 idx, .int .i64 x.idx, .string ⟨#[]⟩, .string ⟨#[]⟩, .string s1, .string s2, .string s3, .int .i64 (1 + (r : Int)), .int .i64 0, .slice pp al.length cc] (.slice pp al.length cc) al)) := fun Y j hT hO hj => by
              have hD := hS2.out.call hT hO
              obtain ⟨x, g2, o2, hx, hp, hc⟩ := rowDev_cell (hl'.out Y hD.only) (Below.refl Y.heap.size Y) hj
              cases hp
              have e0 := hc 0 _ rfl
              rw [Nat.add_zero] at e0
              exact ⟨x, List.mem_of_getElem? hx, e0, hD.dev.frozen 1, hD.dev.cell 1, hD.store 1 _⟩
            go_upto_region 8 with fail
            go_region_law (go_simp; go_at_call 16; refine (hC.out _ rfl).mono ?_; rintro e y7 ⟨⟨r2, hr2, rfl⟩, hTx, hOx⟩; have cX2 := hk1.out y7 hOx; obtain ⟨x, hxl, e0, e1, e2, hS7⟩ := hel.out y7 r2 hTx hOx hr2; have ir0 : (0 : Int) ≤ (r2 : Int) := (by omega); have ir : (r2 : Int) < (k : Int) := (by omega))
            all_goals
              have hp1 := hab'.out x hxl
              have hp0 := (hidx'.out x hxl).1
              clear hTx hOx cX2 e0 e1 e2
              go_wp2_with fail
              go_meet
              case rel => exact ⟨rfl, x.idx, q2 + 1, by omega, by omega, by omega, hS7⟩
        case rest =>
          obtain ⟨rfl, par, q3, hp0, hpi, hq3, hS⟩ := hcut
          clear hS2 hX2
          generalize wc = y8 at *
          rcases (by omega : r = 0 ∨ r = 1 ∨ r = 2 ∨ r = 3) with rfl | rfl | rfl | rfl
          · have c7 := hS.out.dev.cell 7
            simp only [List.getElem?_toArray, List.getElem?_cons_zero, List.getElem?_cons_succ] at c7
            have hC := Lib.hid (one_at B g (q3) 4 4 y8.heap.size tPln (y8) rfl hS.out.tape (by omega) rfl (by omega) (by omega))
            go_wp2_with fail
            refine hC.out.mono ?_
            rintro e z6 ⟨⟨og, hog, rfl⟩, hTx, hOx⟩
            have hog' := Lib.hid (sml_mem (L := tPln) rfl hog)
            have Hz6 := Lib.hid (hS.out.call hTx hOx)
            clear hTx hOx hC hog hS c7
            have c2 := Hz6.out.dev.cell 2
            have c3 := Hz6.out.dev.cell 3
            have f2 := Hz6.out.dev.frozen 2
            have f3 := Hz6.out.dev.frozen 3
            simp only [List.getElem?_toArray, List.getElem?_cons_zero, List.getElem?_cons_succ] at c2 c3
            have K1 : Hid (DS w (z6.setCell ⟨db, 3, none⟩ (.string og)) (w.heap.size + 1) db B g (q3 + 1) #[.int .i64 idx, .int .i64 par, .string ⟨#[]⟩, .string og, .string s1, .string s2, .string s3, .int .i64 (1 + ((0 : Nat) : Int)), .int .i64 0, .slice pp al.length cc] (.slice pp al.length cc) al) := Hz6.out.store 3 (.string og)
            have K2 : Hid (DS w ((z6.setCell ⟨db, 3, none⟩ (.string og)).setCell ⟨db, 2, none⟩ (.string og)) (w.heap.size + 1) db B g (q3 + 1) #[.int .i64 idx, .int .i64 par, .string og, .string og, .string s1, .string s2, .string s3, .int .i64 (1 + ((0 : Nat) : Int)), .int .i64 0, .slice pp al.length cc] (.slice pp al.length cc) al) := K1.out.store 2 (.string og)
            clear K1
            have hz := Lib.hid (K2.out.done hsm'.out hog'.out hs1'.out hs2'.out)
            have hone : (#[.int .i64 idx, .int .i64 par, .string og, .string og, .string s1, .string s2, .string s3, .int .i64 (1 + ((0 : Nat) : Int)), .int .i64 0, .slice pp al.length cc] : Array Value).all (·.oneCell') = true := by simp [Value.oneCell']
            have hres := Lib.hid K2.out.res
            have hdev := Lib.hid K2.out.dev
            clear K2
            go_wp2_with (first
              | (refine wpList_load_row rfl 40 (.tmp 5) rfl db rfl 40 _ (0, 0) _ hdev.out Tryz.underlying40 rfl rfl ?_)
              | (refine wpList_store_row rfl 40 (.tmp 4) (.tmp 113) rfl (w.heap.size + 1) #[.int .i64 idx, .int .i64 par, .string og, .string og, .string s1, .string s2, .string s3, .int .i64 (1 + ((0 : Nat) : Int)), .int .i64 0, .slice pp al.length cc] rfl rfl 40 #[.int .i64 0, .int .i64 0, .string ⟨#[]⟩, .string ⟨#[]⟩, .string ⟨#[]⟩, .string ⟨#[]⟩, .string ⟨#[]⟩, .int .i64 0, .int .i64 0, .slice none 0 0] hres.out rfl rfl hone ?_))
            exact bodyPost_ret (results_cell_row rfl _ _ (w.heap.size + 1) 40 _ (0, 0) _ rfl hz.out.1 Tryz.underlying40 rfl (by kernel_rfl)) rfl ⟨⟨idx, par, og, og, s1, s2, s3, (1 + ((0 : Nat) : Int)), 0, pp, al.length, cc, al⟩, q3 + 1, rfl, by omega, ⟨hz.out.2.1, hz.out.2.2.1, hz.out.2.2.2.1, ⟨hog'.out, hog'.out, hs1'.out, hs2'.out, hs3'.out, hsm'.out, (by show List.length al ≤ 1000; omega)⟩, neat_of hNil.out (by show List.length al ≤ 1000; omega), hab'.out, hp0, hpi, hi1, hiM⟩, hz.out.2.2.2.2.1, hz.out.2.2.2.2.2⟩
          · have c4 := hS.out.dev.cell 4
            have c7 := hS.out.dev.cell 7
            have f4 := hS.out.dev.frozen 4
            simp only [List.getElem?_toArray, List.getElem?_cons_zero, List.getElem?_cons_succ] at c4 c7
            have K1 : Hid (DS w (y8.setCell ⟨db, 4, none⟩ (.string ⟨#[98, 108, 111, 99, 107]⟩)) (w.heap.size + 1) db B g (q3) #[.int .i64 idx, .int .i64 par, .string ⟨#[]⟩, .string ⟨#[]⟩, .string ⟨#[98, 108, 111, 99, 107]⟩, .string s2, .string s3, .int .i64 (1 + ((1 : Nat) : Int)), .int .i64 0, .slice pp al.length cc] (.slice pp al.length cc) al) := hS.out.store 4 (.string ⟨#[98, 108, 111, 99, 107]⟩)
            have hC := Lib.hid (one_at B g (q3) 5 5 y8.heap.size tBlk (y8.setCell ⟨db, 4, none⟩ (.string ⟨#[98, 108, 111, 99, 107]⟩)) (by simp) K1.out.tape (by omega) rfl (by omega) (by omega))
            go_wp2_with fail
            refine hC.out.mono ?_
            rintro e z6 ⟨⟨og, hog, rfl⟩, hTx, hOx⟩
            have hog' := Lib.hid (sml_mem (L := tBlk) rfl hog)
            have Hz6 := Lib.hid (K1.out.call hTx hOx)
            clear hTx hOx hC hog K1 c4 c7 f4 hS
            have c3 := Hz6.out.dev.cell 3
            have f3 := Hz6.out.dev.frozen 3
            simp only [List.getElem?_toArray, List.getElem?_cons_zero, List.getElem?_cons_succ] at c3
            have K2 : Hid (DS w (z6.setCell ⟨db, 3, none⟩ (.string og)) (w.heap.size + 1) db B g (q3 + 1) #[.int .i64 idx, .int .i64 par, .string ⟨#[]⟩, .string og, .string ⟨#[98, 108, 111, 99, 107]⟩, .string s2, .string s3, .int .i64 (1 + ((1 : Nat) : Int)), .int .i64 0, .slice pp al.length cc] (.slice pp al.length cc) al) := Hz6.out.store 3 (.string og)
            have hC := Lib.hid (next_any B g (q3 + 1) 9 _ K2.out.tape (by omega) (by omega) (by omega))
            go_wp2_with fail
            refine hC.out.mono ?_
            rintro e z7 ⟨⟨nn, hnn, rfl⟩, hTx, hOx⟩
            have Hz7 := Lib.hid (K2.out.call hTx hOx)
            clear hTx hOx hC K2 c3 f3 Hz6
            have c8 := Hz7.out.dev.cell 8
            have f8 := Hz7.out.dev.frozen 8
            simp only [List.getElem?_toArray, List.getElem?_cons_zero, List.getElem?_cons_succ] at c8
            have K3 : Hid (DS w (z7.setCell ⟨db, 8, none⟩ (.int .i64 (1 + (nn : Int)))) (w.heap.size + 1) db B g (q3 + 1 + 1) #[.int .i64 idx, .int .i64 par, .string ⟨#[]⟩, .string og, .string ⟨#[98, 108, 111, 99, 107]⟩, .string s2, .string s3, .int .i64 (1 + ((1 : Nat) : Int)), .int .i64 (1 + (nn : Int)), .slice pp al.length cc] (.slice pp al.length cc) al) := Hz7.out.store 8 (.int .i64 (1 + (nn : Int)))
            go_upto_region 20 with fail
            generalize hV : (z7.setCell ⟨db, 8, none⟩ (.int .i64 (1 + (nn : Int)))) = V at *
            clear c8 f8 Hz7 hV
            have hcon : Hid (∀ y, y = (V.alloc (.cells (tCon.map Value.string).toArray 9)).drew → Tape y B g (q3 + 1 + 1) ∧ Only (fun j => j = g) V y ∧ Blk y V.heap.size 9 (tCon.map Value.string).toArray) := fun y e => by
              subst e
              exact ⟨tape_drew (K3.out.tape.below ((Below.refl _ _).alloc (Nat.le_refl _) _)), ((Only.refl _ _).alloc _).drew, (Blk.new V 9 (tCon.map Value.string).toArray).drew⟩
            have hC1 : Hid (Calls Tryz.prog 46 #[] V.drew fun e w' => e = .returned (.slice (some ⟨V.heap.size, 0, none⟩) 9 9) ∧ (Tape w' B g (q3 + 1 + 1) ∧ Only (fun j => j = g) V w' ∧ Blk w' V.heap.size 9 (tCon.map Value.string).toArray)) := (mcontents_any V.drew).mono fun e w' h => ⟨h.1, hcon.out w' h.2⟩
            have hgV : g < V.heap.size := K3.out.tape.lt.2
            have hC2 : Hid (∀ y, Tape y B g (q3 + 1 + 1) ∧ Only (fun j => j = g) V y ∧ Blk y V.heap.size 9 (tCon.map Value.string).toArray → Calls Tryz.prog 20 #[.pointer (some ⟨g, 0, none⟩), .slice (some ⟨V.heap.size, 0, none⟩) 9 9] y fun e w' => (∃ s, s ∈ tCon ∧ e = .returned (.string s)) ∧ Tape w' B g (q3 + 1 + 1 + 1) ∧ Only (fun j => j = g) V w') := fun y h => by
              refine (one_tape B g (q3 + 1 + 1) V.heap.size 9 9 tCon y h.1 (by omega) (by omega) (by omega) (by omega) h.2.2.lt rfl fun i s hs => ?_).mono ?_
              · refine (h.2.2.cell i).trans ?_
                simp [hs]
              · rintro e w' ⟨h1, h2, h3⟩
                exact ⟨h1, h2, h.2.1.trans h3⟩
            have hC3 : Hid (∀ y s, s ∈ tCon → Tape y B g (q3 + 1 + 1 + 1) → Only (fun j => j = g) V y → Calls Tryz.prog 45 #[.slice pp al.length cc, .string ⟨#[99, 111, 110, 116, 101, 110, 116]⟩, .string s] y fun e w' => ∃ (pu : Option Addr) (cu : Nat) (m : List Att), e = .returned (.slice pu m.length cu) ∧ AttsOwn w' y.heap.size (.slice pu m.length cu) m ∧ AttSm m ∧ m.length ≤ 2 * al.length + 1 ∧ Below y.heap.size y w') := fun y s hs hT hO =>
              (rset3_any al _ _ s y (K3.out.call hT hO).att.1 hsm'.out (by omega) (by decide) (sml_mem (L := tCon) rfl hs)).mono fun e w' ⟨u, m, h1, h2, h3⟩ => by
                obtain ⟨pu, cu, rfl⟩ := h2.shape
                exact ⟨pu, cu, m, h1, h2, h3⟩
            have c9 := K3.out.dev.cell 9
            simp only [List.getElem?_toArray, List.getElem?_cons_zero, List.getElem?_cons_succ] at c9
            have hk1 : Hid (∀ y, Only (fun j => j = g) V y → y.cell? ⟨db, 9, none⟩ = some (.slice pp al.length cc)) := fun y h => (World.cell?_of_block (h.block db K3.out.dev.lt (by omega))).trans c9
            have hk2 : Hid (∀ y z, Tape y B g (q3 + 1 + 1 + 1) → Only (fun j => j = g) V y → Below y.heap.size y z → z.cell? ⟨db, 9, none⟩ = some (.slice pp al.length cc) ∧ z.frozen? ⟨db, 9, none⟩ = false) := fun y z hT hO hb => ⟨((K3.out.call hT hO).below hb).dev.cell 9, ((K3.out.call hT hO).below hb).dev.frozen 9⟩
            go_region_law (go_simp; first | (go_at_call 46; refine hC1.out.mono ?_; rintro e y0 ⟨rfl, hy0⟩; have e0 := hk1.out y0 hy0.2.1) | (go_at_call 20; refine (hC2.out _ hy0).mono ?_; rintro e y1 ⟨⟨s4, hs4, rfl⟩, hT1, hO1⟩; have e1 := hk1.out y1 hO1) | (go_at_call 45; refine (hC3.out _ _ hs4 hT1 hO1).mono ?_; rintro e y2 ⟨pu, cu, m, rfl, hom, hsm2, hlm, hbx⟩; have e2 := hk2.out y1 y2 hT1 hO1 hbx; have e3 := e2.1; have e4 := e2.2))
            all_goals
              have hS9 : Hid (DS w (y2.setCell ⟨db, 9, none⟩ (.slice pu m.length cu)) (w.heap.size + 1) db B g (q3 + 1 + 1 + 1) #[.int .i64 idx, .int .i64 par, .string ⟨#[]⟩, .string og, .string ⟨#[98, 108, 111, 99, 107]⟩, .string s2, .string s3, .int .i64 (1 + ((1 : Nat) : Int)), .int .i64 (1 + (nn : Int)), .slice pu m.length cu] (.slice pu m.length cu) m) := K3.out.set hT1 hO1 hbx hom (by omega) 9
              have hsm2' := Lib.hid hsm2
              have hNil2 := Lib.hid hom.1
              generalize y2.setCell ⟨db, 9, none⟩ (.slice pu m.length cu) = Y3 at *
              clear hcon hC1 hC2 hC3 c9 hk1 hk2 hy0 e0 hs4 hT1 hO1 e1 hom hsm2 hbx e2 e3 e4 K3
              have c2 := hS9.out.dev.cell 2
              have c3 := hS9.out.dev.cell 3
              have f2 := hS9.out.dev.frozen 2
              simp only [List.getElem?_toArray, List.getElem?_cons_zero, List.getElem?_cons_succ] at c2 c3
              have K9 : Hid (DS w (Y3.setCell ⟨db, 2, none⟩ (.string og)) (w.heap.size + 1) db B g (q3 + 1 + 1 + 1) #[.int .i64 idx, .int .i64 par, .string og, .string og, .string ⟨#[98, 108, 111, 99, 107]⟩, .string s2, .string s3, .int .i64 (1 + ((1 : Nat) : Int)), .int .i64 (1 + (nn : Int)), .slice pu m.length cu] (.slice pu m.length cu) m) := hS9.out.store 2 (.string og)
              have hz := Lib.hid (K9.out.done hsm2'.out hog'.out sub_blk hs2'.out)
              have hone : (#[.int .i64 idx, .int .i64 par, .string og, .string og, .string ⟨#[98, 108, 111, 99, 107]⟩, .string s2, .string s3, .int .i64 (1 + ((1 : Nat) : Int)), .int .i64 (1 + (nn : Int)), .slice pu m.length cu] : Array Value).all (·.oneCell') = true := by simp [Value.oneCell']
              have hres := Lib.hid K9.out.res
              have hdev := Lib.hid K9.out.dev
              clear K9
              go_wp2_with (first
                | (refine wpList_load_row rfl 40 (.tmp 5) rfl db rfl 40 _ (0, 0) _ hdev.out Tryz.underlying40 rfl rfl ?_)
                | (refine wpList_store_row rfl 40 (.tmp 4) (.tmp 113) rfl (w.heap.size + 1) #[.int .i64 idx, .int .i64 par, .string og, .string og, .string ⟨#[98, 108, 111, 99, 107]⟩, .string s2, .string s3, .int .i64 (1 + ((1 : Nat) : Int)), .int .i64 (1 + (nn : Int)), .slice pu m.length cu] rfl rfl 40 #[.int .i64 0, .int .i64 0, .string ⟨#[]⟩, .string ⟨#[]⟩, .string ⟨#[]⟩, .string ⟨#[]⟩, .string ⟨#[]⟩, .int .i64 0, .int .i64 0, .slice none 0 0] hres.out rfl rfl hone ?_))
              exact bodyPost_ret (results_cell_row rfl _ _ (w.heap.size + 1) 40 _ (0, 0) _ rfl hz.out.1 Tryz.underlying40 rfl (by kernel_rfl)) rfl ⟨⟨idx, par, og, og, ⟨#[98, 108, 111, 99, 107]⟩, s2, s3, (1 + ((1 : Nat) : Int)), (1 + (nn : Int)), pu, m.length, cu, m⟩, q3 + 1 + 1 + 1, rfl, by omega, ⟨hz.out.2.1, hz.out.2.2.1, hz.out.2.2.2.1, ⟨hog'.out, hog'.out, sub_blk, hs2'.out, hs3'.out, hsm2'.out, (by show List.length m ≤ 1000; omega)⟩, neat_of hNil2.out (by show List.length m ≤ 1000; omega), hab'.out, hp0, hpi, hi1, hiM⟩, hz.out.2.2.2.2.1, hz.out.2.2.2.2.2⟩
          · have c7 := hS.out.dev.cell 7
            simp only [List.getElem?_toArray, List.getElem?_cons_zero, List.getElem?_cons_succ] at c7
            have hC := Lib.hid (one_at B g (q3) 3 3 y8.heap.size tChr (y8) rfl hS.out.tape (by omega) rfl (by omega) (by omega))
            go_wp2_with fail
            refine hC.out.mono ?_
            rintro e z6 ⟨⟨og, hog, rfl⟩, hTx, hOx⟩
            have hog' := Lib.hid (sml_mem (L := tChr) rfl hog)
            have Hz6 := Lib.hid (hS.out.call hTx hOx)
            clear hTx hOx hC hog hS c7
            have c3 := Hz6.out.dev.cell 3
            have f3 := Hz6.out.dev.frozen 3
            simp only [List.getElem?_toArray, List.getElem?_cons_zero, List.getElem?_cons_succ] at c3
            have K1 : Hid (DS w (z6.setCell ⟨db, 3, none⟩ (.string og)) (w.heap.size + 1) db B g (q3 + 1) #[.int .i64 idx, .int .i64 par, .string ⟨#[]⟩, .string og, .string s1, .string s2, .string s3, .int .i64 (1 + ((2 : Nat) : Int)), .int .i64 0, .slice pp al.length cc] (.slice pp al.length cc) al) := Hz6.out.store 3 (.string og)
            have hC := Lib.hid (next_any B g (q3 + 1) 9 _ K1.out.tape (by omega) (by omega) (by omega))
            go_wp2_with fail
            refine hC.out.mono ?_
            rintro e z7 ⟨⟨nn, hnn, rfl⟩, hTx, hOx⟩
            have Hz7 := Lib.hid (K1.out.call hTx hOx)
            clear hTx hOx hC K1 c3 f3 Hz6
            have c2 := Hz7.out.dev.cell 2
            have c3 := Hz7.out.dev.cell 3
            have c8 := Hz7.out.dev.cell 8
            have f2 := Hz7.out.dev.frozen 2
            have f8 := Hz7.out.dev.frozen 8
            simp only [List.getElem?_toArray, List.getElem?_cons_zero, List.getElem?_cons_succ] at c2 c3 c8
            have K2 : Hid (DS w (z7.setCell ⟨db, 8, none⟩ (.int .i64 (1 + (nn : Int)))) (w.heap.size + 1) db B g (q3 + 1 + 1) #[.int .i64 idx, .int .i64 par, .string ⟨#[]⟩, .string og, .string s1, .string s2, .string s3, .int .i64 (1 + ((2 : Nat) : Int)), .int .i64 (1 + (nn : Int)), .slice pp al.length cc] (.slice pp al.length cc) al) := Hz7.out.store 8 (.int .i64 (1 + (nn : Int)))
            have K3 : Hid (DS w ((z7.setCell ⟨db, 8, none⟩ (.int .i64 (1 + (nn : Int)))).setCell ⟨db, 2, none⟩ (.string og)) (w.heap.size + 1) db B g (q3 + 1 + 1) #[.int .i64 idx, .int .i64 par, .string og, .string og, .string s1, .string s2, .string s3, .int .i64 (1 + ((2 : Nat) : Int)), .int .i64 (1 + (nn : Int)), .slice pp al.length cc] (.slice pp al.length cc) al) := K2.out.store 2 (.string og)
            clear K2
            have hz := Lib.hid (K3.out.done hsm'.out hog'.out hs1'.out hs2'.out)
            have hone : (#[.int .i64 idx, .int .i64 par, .string og, .string og, .string s1, .string s2, .string s3, .int .i64 (1 + ((2 : Nat) : Int)), .int .i64 (1 + (nn : Int)), .slice pp al.length cc] : Array Value).all (·.oneCell') = true := by simp [Value.oneCell']
            have hres := Lib.hid K3.out.res
            have hdev := Lib.hid K3.out.dev
            clear K3
            go_wp2_with (first
              | (refine wpList_load_row rfl 40 (.tmp 5) rfl db rfl 40 _ (0, 0) _ hdev.out Tryz.underlying40 rfl rfl ?_)
              | (refine wpList_store_row rfl 40 (.tmp 4) (.tmp 113) rfl (w.heap.size + 1) #[.int .i64 idx, .int .i64 par, .string og, .string og, .string s1, .string s2, .string s3, .int .i64 (1 + ((2 : Nat) : Int)), .int .i64 (1 + (nn : Int)), .slice pp al.length cc] rfl rfl 40 #[.int .i64 0, .int .i64 0, .string ⟨#[]⟩, .string ⟨#[]⟩, .string ⟨#[]⟩, .string ⟨#[]⟩, .string ⟨#[]⟩, .int .i64 0, .int .i64 0, .slice none 0 0] hres.out rfl rfl hone ?_))
            exact bodyPost_ret (results_cell_row rfl _ _ (w.heap.size + 1) 40 _ (0, 0) _ rfl hz.out.1 Tryz.underlying40 rfl (by kernel_rfl)) rfl ⟨⟨idx, par, og, og, s1, s2, s3, (1 + ((2 : Nat) : Int)), (1 + (nn : Int)), pp, al.length, cc, al⟩, q3 + 1 + 1, rfl, by omega, ⟨hz.out.2.1, hz.out.2.2.1, hz.out.2.2.2.1, ⟨hog'.out, hog'.out, hs1'.out, hs2'.out, hs3'.out, hsm'.out, (by show List.length al ≤ 1000; omega)⟩, neat_of hNil.out (by show List.length al ≤ 1000; omega), hab'.out, hp0, hpi, hi1, hiM⟩, hz.out.2.2.2.2.1, hz.out.2.2.2.2.2⟩
          · have c4 := hS.out.dev.cell 4
            have c7 := hS.out.dev.cell 7
            have f4 := hS.out.dev.frozen 4
            simp only [List.getElem?_toArray, List.getElem?_cons_zero, List.getElem?_cons_succ] at c4 c7
            have K1 : Hid (DS w (y8.setCell ⟨db, 4, none⟩ (.string ⟨#[110, 101, 116]⟩)) (w.heap.size + 1) db B g (q3) #[.int .i64 idx, .int .i64 par, .string ⟨#[]⟩, .string ⟨#[]⟩, .string ⟨#[110, 101, 116]⟩, .string s2, .string s3, .int .i64 (1 + ((3 : Nat) : Int)), .int .i64 0, .slice pp al.length cc] (.slice pp al.length cc) al) := hS.out.store 4 (.string ⟨#[110, 101, 116]⟩)
            have hC := Lib.hid (one_at B g (q3) 3 3 y8.heap.size tNet (y8.setCell ⟨db, 4, none⟩ (.string ⟨#[110, 101, 116]⟩)) (by simp) K1.out.tape (by omega) rfl (by omega) (by omega))
            go_wp2_with fail
            refine hC.out.mono ?_
            rintro e z6 ⟨⟨og, hog, rfl⟩, hTx, hOx⟩
            have hog' := Lib.hid (sml_mem (L := tNet) rfl hog)
            have Hz6 := Lib.hid (K1.out.call hTx hOx)
            clear hTx hOx hC hog K1 c4 c7 f4 hS
            have c3 := Hz6.out.dev.cell 3
            have f3 := Hz6.out.dev.frozen 3
            simp only [List.getElem?_toArray, List.getElem?_cons_zero, List.getElem?_cons_succ] at c3
            have K2 : Hid (DS w (z6.setCell ⟨db, 3, none⟩ (.string og)) (w.heap.size + 1) db B g (q3 + 1) #[.int .i64 idx, .int .i64 par, .string ⟨#[]⟩, .string og, .string ⟨#[110, 101, 116]⟩, .string s2, .string s3, .int .i64 (1 + ((3 : Nat) : Int)), .int .i64 0, .slice pp al.length cc] (.slice pp al.length cc) al) := Hz6.out.store 3 (.string og)
            have hC := Lib.hid (one_at B g (q3 + 1) 4 4 z6.heap.size [og, og, ⟨#[108, 97, 110, 48]⟩, ⟨#[101, 116, 104, 49]⟩] (z6.setCell ⟨db, 3, none⟩ (.string og)) (by simp) K2.out.tape (by omega) rfl (by omega) (by omega))
            go_wp2_with fail
            refine hC.out.mono ?_
            rintro e z7 ⟨⟨nm, hnm, rfl⟩, hTx, hOx⟩
            have hnm' := Lib.hid (dyn_mem hog'.out hnm)
            have Hz7 := Lib.hid (K2.out.call hTx hOx)
            clear hTx hOx hC hnm K2 c3 f3 Hz6
            have c2 := Hz7.out.dev.cell 2
            have f2 := Hz7.out.dev.frozen 2
            simp only [List.getElem?_toArray, List.getElem?_cons_zero, List.getElem?_cons_succ] at c2
            have K3 : Hid (DS w (z7.setCell ⟨db, 2, none⟩ (.string nm)) (w.heap.size + 1) db B g (q3 + 1 + 1) #[.int .i64 idx, .int .i64 par, .string nm, .string og, .string ⟨#[110, 101, 116]⟩, .string s2, .string s3, .int .i64 (1 + ((3 : Nat) : Int)), .int .i64 0, .slice pp al.length cc] (.slice pp al.length cc) al) := Hz7.out.store 2 (.string nm)
            have hz := Lib.hid (K3.out.done hsm'.out hog'.out sub_net hs2'.out)
            have hone : (#[.int .i64 idx, .int .i64 par, .string nm, .string og, .string ⟨#[110, 101, 116]⟩, .string s2, .string s3, .int .i64 (1 + ((3 : Nat) : Int)), .int .i64 0, .slice pp al.length cc] : Array Value).all (·.oneCell') = true := by simp [Value.oneCell']
            have hres := Lib.hid K3.out.res
            have hdev := Lib.hid K3.out.dev
            clear K3
            go_wp2_with (first
              | (refine wpList_load_row rfl 40 (.tmp 5) rfl db rfl 40 _ (0, 0) _ hdev.out Tryz.underlying40 rfl rfl ?_)
              | (refine wpList_store_row rfl 40 (.tmp 4) (.tmp 81) rfl (w.heap.size + 1) #[.int .i64 idx, .int .i64 par, .string nm, .string og, .string ⟨#[110, 101, 116]⟩, .string s2, .string s3, .int .i64 (1 + ((3 : Nat) : Int)), .int .i64 0, .slice pp al.length cc] rfl rfl 40 #[.int .i64 0, .int .i64 0, .string ⟨#[]⟩, .string ⟨#[]⟩, .string ⟨#[]⟩, .string ⟨#[]⟩, .string ⟨#[]⟩, .int .i64 0, .int .i64 0, .slice none 0 0] hres.out rfl rfl hone ?_))
            exact bodyPost_ret (results_cell_row rfl _ _ (w.heap.size + 1) 40 _ (0, 0) _ rfl hz.out.1 Tryz.underlying40 rfl (by kernel_rfl)) rfl ⟨⟨idx, par, nm, og, ⟨#[110, 101, 116]⟩, s2, s3, (1 + ((3 : Nat) : Int)), 0, pp, al.length, cc, al⟩, q3 + 1 + 1, rfl, by omega, ⟨hz.out.2.1, hz.out.2.2.1, hz.out.2.2.2.1, ⟨hnm'.out, hog'.out, sub_net, hs2'.out, hs3'.out, hsm'.out, (by show List.length al ≤ 1000; omega)⟩, neat_of hNil.out (by show List.length al ≤ 1000; omega), hab'.out, hp0, hpi, hi1, hiM⟩, hz.out.2.2.2.2.1, hz.out.2.2.2.2.2⟩

end Go.Proofs.YtinjeijjfkkhbaaGreatDoor
