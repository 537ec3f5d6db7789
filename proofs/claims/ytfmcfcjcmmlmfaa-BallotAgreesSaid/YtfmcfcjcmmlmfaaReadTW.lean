/- Walks over wire's reader: a text, a value that were written. -/
import Derived.Test.YtfmcfcjcmmlmfaaReadNW
import Derived.Test.YtfmcfcjcmmlmfaaHide
import Derived.Laws.IdiomStrings
namespace Go.Proofs.Ytfmcfcjcmmlmfaa
set_option maxRecDepth 100000
open Go Go.RowKit
set_option linter.unusedVariables false

theorem uU8 : Try.prog.underlying 5 = some (.int .u8) := by kernel_rfl

/-- a piece of a reader's bytes, as a slice and as a string -/
theorem piece {w : World} {g off c : Nat} {bs : List UInt8} (h : Byt w (some ⟨g, off, none⟩) bs) (hc : bs.length ≤ c) (A S : Nat) (hA : A + S ≤ bs.length) (s : ByteArray) (hs : (bs.drop A).take S = s.data.toList) (hS : s.size = S) (H : Int) (hH : H = (A : Int) + S) :
    ∃ a2 c2, (∀ W, (Instr.slice 72 (.slice (some ⟨g, off, none⟩) bs.length c) (some (.int .i64 A)) (some (.int .i64 H)) none).run Try.prog W = .ok (.slice a2 S c2) W) ∧
      ∀ W, Chg No w W → (convert 72 9 (.slice a2 S c2)).run Try.prog W = .ok (.string s) W := by
  have hl : s.data.toList.length = S := by rw [← hS]; simp
  by_cases hcA : c = A
  · have hS0 : S = 0 := by omega
    subst hS0
    refine ⟨some ⟨g, off, none⟩, 0, fun W => ?_, fun W hW => ?_⟩
    · exact run_slice_lh_end (P := Try.prog) uBytes sizeU8 (some ⟨g, off, none⟩) bs.length c A A (Nat.le_refl _) (by omega) hcA A H rfl (by omega) W
    · have := run_convert_bytes_back (P := Try.prog) W 72 9 5 ⟨g, off, none⟩ 0 [] uBytes uU8 uString (fun j hj => by simp at hj)
      have e : s = ⟨[].toArray⟩ := by
        apply ByteArray.ext
        apply Array.toList_inj.1
        rw [← hs]
        simp
      rw [e]
      exact this
  · refine ⟨some ⟨g, off + A, none⟩, c - A, fun W => ?_, fun W hW => ?_⟩
    · have := run_slice_lh (P := Try.prog) uBytes sizeU8 g off bs.length c A (A + S) (by omega) (by omega) hcA A H rfl (by omega) W
      rw [this]
      rw [Nat.mul_one, Nat.add_sub_cancel_left]
    · have := run_convert_bytes_back (P := Try.prog) W 72 9 5 ⟨g, off + A, none⟩ (c - A) s.data.toList uBytes uU8 uString (fun j hj => by
        have hj2 : A + j < bs.length := by omega
        obtain ⟨_, _, he, hcell⟩ := h (A + j) hj2
        cases he
        have e1 : s.data.toList[j]? = bs[A + j]? := by rw [← hs, List.getElem?_take_of_lt (by omega), List.getElem?_drop]
        rw [List.getElem?_eq_getElem hj, List.getElem?_eq_getElem hj2] at e1
        injection e1 with e1
        rw [e1, Go.WideShapes.add_plain, Nat.add_assoc]
        exact hW.cellN hcell)
      rw [hl] at this
      rw [this]

set_option maxRecDepth 100000 in
set_option maxHeartbeats 1000000 in
theorem rdtext_ok (rb : Nat) (a : Option Addr) (c : Nat) (bs : List UInt8) (at_ : Nat) (w : World) (h : Reads w rb a c bs at_) (s : ByteArray) (post : List UInt8) (hbs : bs.drop at_ = numB s.size ++ (s.data.toList ++ post)) (hs : s.size ≤ 1000) :
    Calls Try.prog 64 #[.pointer (some ⟨rb, 0, none⟩)] w fun e w' => e = .returned (.string s) ∧ Chg (One rb) w w' ∧ Reads w' rb a c bs (at_ + (numB s.size).length + s.size) := by
  have hn := hid (rdnum_ok rb a c bs at_ w h s.size (s.data.toList ++ post) hbs (by omega))
  have hdrop : bs.drop (at_ + (numB s.size).length) = s.data.toList ++ post := by rw [← List.drop_drop, hbs, List.drop_left]
  have hlen : at_ + (numB s.size).length + s.size ≤ bs.length := by
    have h1 := congrArg List.length hbs
    have h2 : s.data.toList.length = s.size := by simp
    simp only [List.length_drop, List.length_append, h2] at h1
    have h3 : 0 < (numB s.size).length := by
      unfold numB
      obtain ⟨t, ht, -⟩ := varint_cons 9 s.size
      rw [ht]; simp
    omega
  have hpiece : (bs.drop (at_ + (numB s.size).length)).take s.size = s.data.toList := by
    rw [hdrop, List.take_left' (by simp)]
  have hle := h.le
  have hcap := h.cap
  have hpos : 0 < bs.length := by
    have h3 : 0 < (numB s.size).length := by
      unfold numB
      obtain ⟨t, ht, -⟩ := varint_cons 9 s.size
      rw [ht]; simp
    omega
  obtain ⟨g, off, rfl, -⟩ := h.byt 0 hpos
  have hap := h.apart g off rfl hpos
  have Hap := hid hap
  generalize hA1 : at_ + (numB s.size).length = A1 at *
  generalize hSz : s.size = S at *
  have Hpiece := hid hpiece
  have HSz := hid hSz
  have HA1 := hid hA1
  generalize hL : bs.length = L at *
  have HL := hid hL
  clear hA1 hSz hpiece h hdrop hbs hap hL
  have hS0 : (0 : Int) ≤ (S : Int) := by omega
  have hS1 : (S : Int) ≤ 1000 := by omega
  have hA0 : (0 : Int) ≤ (A1 : Int) := by omega
  have hA2 : (A1 : Int) + (S : Int) ≤ (L : Int) := by omega
  have hL2 : (L : Int) ≤ 4194304 := by omega
  go_enter Try.func64, Try.ntmps64
  go_wp2_with fail
  refine hn.out.mono ?_
  rintro e w1 ⟨rfl, hch, hR⟩
  have hb := hR.blk
  rw [HL.out] at hb
  obtain ⟨c0, c1, cf⟩ := hb.c2
  have hwa : IntKind.i64.wrap ((L : Int) - (A1 : Int)) = (L : Int) - (A1 : Int) := IntWalk.i64_in _ (by omega)
  have hwb : IntKind.u64.wrap ((L : Int) - (A1 : Int)) = (L : Int) - (A1 : Int) := wraps_u64 _ (by omega) (by omega)
  have q1 : decide ((L : Int) - (A1 : Int) < (S : Int)) = false := by simp; omega
  have Hch := hid hch
  have HR := hid hR
  clear hch hR hb
  go_wp2_with fail
  go_quiet (fail)
  go_wp2_with fail
  have hB : Blk (w1.drewN nq) rb #[.slice (some ⟨g, off, none⟩) L c, .int .i64 A1] 125 := by
    have := HR.out.blk; rw [HL.out] at this; exact this
  have hch2 : Chg (One rb) w1 ((w1.drewN nq).setCell ⟨rb, 1, none⟩ (.int .i64 ((A1 : Int) + (S : Int)))) := (Chg.drewN (.refl _ w1) nq).setCell _ _ (fun _ => rfl)
  have hB2 := hB.set 1 (.int .i64 ((A1 : Int) + (S : Int)))
  simp only [List.setIfInBounds_toArray, List.set_cons_succ, List.set_cons_zero] at hB2
  have hR2 : Reads ((w1.drewN nq).setCell ⟨rb, 1, none⟩ (.int .i64 ((A1 : Int) + (S : Int)))) rb (some ⟨g, off, none⟩) c bs (A1 + S) := by
    refine HR.out.moved hch2 ?_
    rw [HL.out]
    exact hB2
  obtain ⟨a2, c2, hsl, hcv⟩ := piece hR2.byt (by rw [HL.out]; exact hcap) A1 S (by rw [HL.out]; omega) s Hpiece.out HSz.out ((A1 : Int) + S) rfl
  rw [HL.out] at hsl
  obtain ⟨d0, d1, df⟩ := hB2.c2
  have HR2 := hid hR2
  have HC2 := hid hch2
  clear hB hB2 hR2 hch2 c0 c1 cf
  generalize (w1.drewN nq).setCell ⟨rb, 1, none⟩ (.int .i64 ((A1 : Int) + (S : Int))) = W at *
  have hcv2 : ∀ n, (convert 72 9 (.slice a2 S c2)).run Try.prog (W.drewN n) = .ok (.string s) (W.drewN n) := fun n => hcv _ ((Chg.refl _ _).drewN n)
  clear hcv
  have hwc : IntKind.i64.wrap ((A1 : Int) + (S : Int) - (S : Int)) = (A1 : Int) := by rw [IntWalk.i64_in _ (by omega)]; omega
  go_quiet (fail)
  go_wp2_with fail
  go_ret
  exact ⟨rfl, (Hch.out.same HC2.out).drewN _, HR2.out.kept ((Chg.refl _ _).drewN _)⟩

theorem first_byte {bs : List UInt8} {at_ : Nat} {x : UInt8} {l : List UInt8} (h : bs.drop at_ = x :: l) : ∃ hat : at_ < bs.length, bs[at_].toNat = x.toNat ∧ bs.drop (at_ + 1) = l := by
  have hat : at_ < bs.length := by
    have := congrArg List.length h
    simp at this
    omega
  have h2 : (bs.drop at_)[0]? = some x := by rw [h]; rfl
  rw [List.getElem?_drop] at h2
  have h1 : bs[at_]? = some x := by simpa using h2
  rw [List.getElem?_eq_getElem hat] at h1
  injection h1 with h1
  exact ⟨hat, by rw [h1], by rw [← List.drop_drop, h]; rfl⟩

/-- what a read of a value leaves -/
def RdPost (rb : Nat) (a : Option Addr) (c : Nat) (bs : List UInt8) (at_ : Nat) (x : WV) (w : World) (e : Ending) (w' : World) : Prop :=
  e = .returned (.agg x.cells.toArray) ∧ Chg (One rb) w w' ∧ Reads w' rb a c bs (at_ + (putB x).length)

theorem Reads.later {w w2 W : World} {rb at0 at1 : Nat} {a : Option Addr} {c : Nat} {bs : List UInt8} (h : Reads w rb a c bs at0) (h2 : Reads w2 rb a c bs at1) (ch : Chg (fun j => w.heap.size ≤ j) w2 W) : Reads W rb a c bs at1 := by
  have hlt := h.blk.lt
  refine ⟨h2.blk.kept ch (by omega), fun j hj => ?_, h2.apart, h2.cap, h2.le⟩
  obtain ⟨g, off, ha, hc⟩ := h2.byt j hj
  obtain ⟨g', off', ha', hc'⟩ := h.byt j hj
  rw [ha] at ha'
  cases ha'
  have h1 := World.block_lt_of_cell? w _ hc'
  have h3 := World.block_lt_of_cell? w2 _ hc
  simp only at h1 h3
  exact ⟨g, off, ha, (ch.cell (p := ⟨g, off + j, none⟩) h3 (by simp only; omega)).trans hc⟩

set_option maxRecDepth 100000 in
set_option maxHeartbeats 1000000 in
theorem rdvalue_u (rb : Nat) (a : Option Addr) (c : Nat) (bs : List UInt8) (at_ : Nat) (w : World) (h : Reads w rb a c bs at_) (u : Nat) (hu : u < 18446744073709551616) (post : List UInt8) (hbs : bs.drop at_ = 1 :: (numB u ++ post)) :
    Calls Try.prog 51 #[.pointer (some ⟨rb, 0, none⟩)] w (RdPost rb a c bs at_ ⟨1, u, 0, ByteArray.empty⟩ w) := by
  obtain ⟨hat, hb, hd⟩ := first_byte hbs
  have H := hid h
  have hA : Chg No w (w.alloc (.cells #[.int .i64 0, .int .u64 0, .int .i64 0, .float .f64 0, .string ByteArray.empty] 91)) := (Chg.refl _ _).alloc _
  have hB0 := hid (Blk.new w #[.int .i64 0, .int .u64 0, .int .i64 0, .float .f64 0, .string ByteArray.empty] 91)
  have hn := next_ok rb a c bs at_ _ (h.kept hA) hat
  rw [hb] at hn
  have Hn := hid hn
  have hlt := h.blk.lt
  have Hd := hid hd
  have HA := hid hA
  clear hbs hb h hn hd hA
  go_enter Try.func51, Try.ntmps51
  go_wp2_with fail
  refine Hn.out.mono ?_
  rintro e w1 ⟨rfl, hch, hR⟩
  have Hch := hid (HA.out.mono (T := One rb) (fun _ _ h => h.elim) |>.same hch)
  have HR := hid hR
  have HB0 := hid (hB0.out.kept hch (fun e => by have : w.heap.size = rb := e; omega))
  clear hch hR hB0 Hn
  go_wp2_with fail
  have hA1 : Chg No w1 (w1.alloc (.cells #[.int .i64 1, .int .u64 0, .int .i64 0, .float .f64 0, .string ByteArray.empty] 91)) := (Chg.refl _ _).alloc _
  have hB1 := Blk.new w1 #[.int .i64 1, .int .u64 0, .int .i64 0, .float .f64 0, .string ByteArray.empty] 91
  have hlt1 := HR.out.blk.lt
  have hlt0 := HB0.out.lt
  refine (rdnum_ok rb a c bs (at_ + 1) _ (HR.out.kept hA1) u post Hd.out hu).mono ?_
  rintro e w2 ⟨rfl, hch2, hR2⟩
  have hB1' := hB1.kept hch2 (fun e => by have : w1.heap.size = rb := e; omega)
  have hB0' := (HB0.out.kept hA1 id).kept hch2 (fun e => by have : w.heap.size = rb := e; omega)
  have HchA := hid ((Hch.out.same (hA1.mono (fun _ _ h => h.elim))).same hch2)
  have HR2 := hid hR2
  obtain ⟨c0, c1, c2, c3, c4, cf⟩ := hB1'.c5
  obtain ⟨d0, d1, d2, d3, d4, df⟩ := hB0'.c5
  have hne : w.heap.size ≠ w1.heap.size := by omega
  have hg0 : w.heap.size ≤ w.heap.size := Nat.le_refl _
  have hg1 : w.heap.size ≤ w1.heap.size := Hch.out.size
  have Hg0 : Hid (w.heap.size ≤ w.heap.size ∧ w.heap.size ≤ w1.heap.size) := hid ⟨hg0, hg1⟩
  clear hA1 hB1 hch2 hR2 hlt hlt0 hlt1 hB0' hB1' HA HB0 hg0 hg1
  obtain ⟨g0, hg0⟩ : ∃ g0, w.heap.size = g0 := ⟨_, rfl⟩
  obtain ⟨g1, hg1⟩ : ∃ g1, w1.heap.size = g1 := ⟨_, rfl⟩
  have Hs : Hid (w.heap.size ≤ g0 ∧ w.heap.size ≤ g1) := hid ⟨by omega, by have := Hg0.out; omega⟩
  rw [hg0] at d0 d1 d2 d3 d4 df hne ⊢
  rw [hg1] at c0 c1 c2 c3 c4 cf hne ⊢
  clear hg0 hg1 Hg0
  go_wp2_with fail
  refine bodyPost_ret (v := .agg #[.int .i64 1, .int .u64 u, .int .i64 0, .float .f64 0, .string ByteArray.empty]) (by rw [results_cell1 rfl]; go_simp) rfl ?_
  have hs := Hs.out
  have hcc : Chg (fun j => w.heap.size ≤ j) w2 _ := ((((((Chg.refl (fun j => w.heap.size ≤ j) w2).setCell ⟨g1, 1, none⟩ (.int .u64 u) (fun _ => hs.2)).setCell ⟨g0, 0, none⟩ (.int .i64 1) (fun _ => hs.1)).setCell ⟨g0, 1, none⟩ (.int .u64 u) (fun _ => hs.1)).setCell ⟨g0, 2, none⟩ (.int .i64 0) (fun _ => hs.1)).setCell ⟨g0, 3, none⟩ (.float .f64 0) (fun _ => hs.1)).setCell ⟨g0, 4, none⟩ (.string ByteArray.empty) (fun _ => hs.1)
  refine ⟨rfl, HchA.out.trans hcc (fun j h1 h2 => by omega), ?_⟩
  have hr := H.out.later HR2.out hcc
  rw [show at_ + (putB ⟨1, u, 0, ByteArray.empty⟩).length = at_ + 1 + (numB u).length from by simp [putB]; omega]
  exact hr

set_option maxRecDepth 100000 in
set_option maxHeartbeats 1000000 in
theorem rdvalue_t (rb : Nat) (a : Option Addr) (c : Nat) (bs : List UInt8) (at_ : Nat) (w : World) (h : Reads w rb a c bs at_) (s : ByteArray) (hs : s.size ≤ 1000) (post : List UInt8) (hbs : bs.drop at_ = 4 :: (numB s.size ++ (s.data.toList ++ post))) :
    Calls Try.prog 51 #[.pointer (some ⟨rb, 0, none⟩)] w (RdPost rb a c bs at_ ⟨4, 0, 0, s⟩ w) := by
  obtain ⟨hat, hb, hd⟩ := first_byte hbs
  have H := hid h
  have hA : Chg No w (w.alloc (.cells #[.int .i64 0, .int .u64 0, .int .i64 0, .float .f64 0, .string ByteArray.empty] 91)) := (Chg.refl _ _).alloc _
  have hB0 := hid (Blk.new w #[.int .i64 0, .int .u64 0, .int .i64 0, .float .f64 0, .string ByteArray.empty] 91)
  have hn := next_ok rb a c bs at_ _ (h.kept hA) hat
  rw [hb] at hn
  have Hn := hid hn
  have hlt := h.blk.lt
  have Hd := hid hd
  have HA := hid hA
  clear hbs hb h hn hd hA
  go_enter Try.func51, Try.ntmps51
  go_wp2_with fail
  refine Hn.out.mono ?_
  rintro e w1 ⟨rfl, hch, hR⟩
  have Hch := hid (HA.out.mono (T := One rb) (fun _ _ h => h.elim) |>.same hch)
  have HR := hid hR
  have HB0 := hid (hB0.out.kept hch (fun e => by have : w.heap.size = rb := e; omega))
  clear hch hR hB0 Hn
  go_wp2_with fail
  have hA1 : Chg No w1 (w1.alloc (.cells #[.int .i64 4, .int .u64 0, .int .i64 0, .float .f64 0, .string ByteArray.empty] 91)) := (Chg.refl _ _).alloc _
  have hB1 := Blk.new w1 #[.int .i64 4, .int .u64 0, .int .i64 0, .float .f64 0, .string ByteArray.empty] 91
  have hlt1 := HR.out.blk.lt
  have hlt0 := HB0.out.lt
  refine (rdtext_ok rb a c bs (at_ + 1) _ (HR.out.kept hA1) s post Hd.out hs).mono ?_
  rintro e w2 ⟨rfl, hch2, hR2⟩
  have hB1' := hB1.kept hch2 (fun e => by have : w1.heap.size = rb := e; omega)
  have hB0' := (HB0.out.kept hA1 id).kept hch2 (fun e => by have : w.heap.size = rb := e; omega)
  have HchA := hid ((Hch.out.same (hA1.mono (fun _ _ h => h.elim))).same hch2)
  have HR2 := hid hR2
  obtain ⟨c0, c1, c2, c3, c4, cf⟩ := hB1'.c5
  obtain ⟨d0, d1, d2, d3, d4, df⟩ := hB0'.c5
  have hne : w.heap.size ≠ w1.heap.size := by omega
  have hg0 : w.heap.size ≤ w.heap.size := Nat.le_refl _
  have hg1 : w.heap.size ≤ w1.heap.size := Hch.out.size
  have Hg0 : Hid (w.heap.size ≤ w.heap.size ∧ w.heap.size ≤ w1.heap.size) := hid ⟨hg0, hg1⟩
  clear hA1 hB1 hch2 hR2 hlt hlt0 hlt1 hB0' hB1' HA HB0 hg0 hg1
  obtain ⟨g0, hg0⟩ : ∃ g0, w.heap.size = g0 := ⟨_, rfl⟩
  obtain ⟨g1, hg1⟩ : ∃ g1, w1.heap.size = g1 := ⟨_, rfl⟩
  have Hs : Hid (w.heap.size ≤ g0 ∧ w.heap.size ≤ g1) := hid ⟨by omega, by have := Hg0.out; omega⟩
  rw [hg0] at d0 d1 d2 d3 d4 df hne ⊢
  rw [hg1] at c0 c1 c2 c3 c4 cf hne ⊢
  clear hg0 hg1 Hg0
  go_wp2_with fail
  refine bodyPost_ret (v := .agg #[.int .i64 4, .int .u64 0, .int .i64 0, .float .f64 0, .string s]) (by rw [results_cell1 rfl]; go_simp) rfl ?_
  have hs2 := Hs.out
  have hcc : Chg (fun j => w.heap.size ≤ j) w2 _ := ((((((Chg.refl (fun j => w.heap.size ≤ j) w2).setCell ⟨g1, 4, none⟩ (.string s) (fun _ => hs2.2)).setCell ⟨g0, 0, none⟩ (.int .i64 4) (fun _ => hs2.1)).setCell ⟨g0, 1, none⟩ (.int .u64 0) (fun _ => hs2.1)).setCell ⟨g0, 2, none⟩ (.int .i64 0) (fun _ => hs2.1)).setCell ⟨g0, 3, none⟩ (.float .f64 0) (fun _ => hs2.1)).setCell ⟨g0, 4, none⟩ (.string s) (fun _ => hs2.1)
  refine ⟨rfl, HchA.out.trans hcc (fun j h1 h2 => by omega), ?_⟩
  have hr := H.out.later HR2.out hcc
  rw [show at_ + (putB ⟨4, 0, 0, s⟩).length = at_ + 1 + (numB s.size).length + s.size from by simp [putB]; omega]
  exact hr

/-- the whole number of a number that was read -/
theorem unzig (i : Int) (h1 : -9223372036854775808 ≤ i) (h2 : i ≤ 9223372036854775807) :
    bits .xor .i64 ((zig i : Int) / 2) (wrap64 (-wrap64 (bits .and .u64 (zig i : Int) 1))) = i := by
  have hz := zig_lt i h1 h2
  rw [Lib.u64_and1 _ (by omega) (by omega)]
  by_cases h : 0 ≤ i
  · have e1 : ((zig i : Int)) = 2 * i := by unfold zig; rw [if_pos h]; omega
    rw [e1]
    have e2 : wrap64 (-wrap64 (2 * i % 2)) = 0 := by unfold wrap64; omega
    rw [e2, show 2 * i / 2 = i by omega]
    show IntKind.i64.wrap ((BitVec.ofInt 64 i ^^^ BitVec.ofInt 64 0).toNat : Int) = _
    obtain ⟨n, rfl⟩ := Int.eq_ofNat_of_zero_le h
    have h3 : (BitVec.ofInt 64 (n : Int)).toNat = n := by
      rw [BitVec.ofInt_natCast, BitVec.toNat_ofNat]; exact Nat.mod_eq_of_lt (by omega)
    have h4 : BitVec.ofInt 64 (0 : Int) = 0#64 := by decide
    rw [h4, BitVec.xor_zero, h3, IntKind.wrap_i64]
    omega
  · have e1 : ((zig i : Int)) = -2 * i - 1 := by unfold zig; rw [if_neg h]; omega
    rw [e1]
    have e2 : wrap64 (-wrap64 ((-2 * i - 1) % 2)) = -1 := by unfold wrap64; omega
    obtain ⟨n, hn⟩ := Int.eq_ofNat_of_zero_le (show 0 ≤ (-2 * i - 1) / 2 by omega)
    rw [e2, hn]
    have hx := Lib.i64_not n (by omega)
    have hc : bits .xor .i64 (n : Int) (-1) = bits .xor .i64 (-1) (n : Int) := by simp only [bits]; rw [BitVec.xor_comm]
    rw [hc, hx]
    omega

set_option maxRecDepth 100000 in
set_option maxHeartbeats 1000000 in
theorem rdvalue_i (rb : Nat) (a : Option Addr) (c : Nat) (bs : List UInt8) (at_ : Nat) (w : World) (h : Reads w rb a c bs at_) (i : Int) (hi1 : -9223372036854775808 ≤ i) (hi2 : i ≤ 9223372036854775807) (post : List UInt8) (hbs : bs.drop at_ = 2 :: (numB (zig i) ++ post)) :
    Calls Try.prog 51 #[.pointer (some ⟨rb, 0, none⟩)] w (RdPost rb a c bs at_ ⟨2, 0, i, ByteArray.empty⟩ w) := by
  obtain ⟨hat, hb, hd⟩ := first_byte hbs
  have H := hid h
  have hA : Chg No w (w.alloc (.cells #[.int .i64 0, .int .u64 0, .int .i64 0, .float .f64 0, .string ByteArray.empty] 91)) := (Chg.refl _ _).alloc _
  have hB0 := hid (Blk.new w #[.int .i64 0, .int .u64 0, .int .i64 0, .float .f64 0, .string ByteArray.empty] 91)
  have hn := next_ok rb a c bs at_ _ (h.kept hA) hat
  rw [hb] at hn
  have Hn := hid hn
  have hlt := h.blk.lt
  have Hd := hid hd
  have HA := hid hA
  clear hbs hb h hn hd hA
  go_enter Try.func51, Try.ntmps51
  go_wp2_with fail
  refine Hn.out.mono ?_
  rintro e w1 ⟨rfl, hch, hR⟩
  have Hch := hid (HA.out.mono (T := One rb) (fun _ _ h => h.elim) |>.same hch)
  have HR := hid hR
  have HB0 := hid (hB0.out.kept hch (fun e => by have : w.heap.size = rb := e; omega))
  clear hch hR hB0 Hn
  go_wp2_with fail
  have hA1 : Chg No w1 (w1.alloc (.cells #[.int .i64 2, .int .u64 0, .int .i64 0, .float .f64 0, .string ByteArray.empty] 91)) := (Chg.refl _ _).alloc _
  have hB1 := Blk.new w1 #[.int .i64 2, .int .u64 0, .int .i64 0, .float .f64 0, .string ByteArray.empty] 91
  have hlt1 := HR.out.blk.lt
  have hlt0 := HB0.out.lt
  refine (rdnum_ok rb a c bs (at_ + 1) _ (HR.out.kept hA1) (zig i) post Hd.out (zig_lt i hi1 hi2)).mono ?_
  rintro e w2 ⟨rfl, hch2, hR2⟩
  have hB1' := hB1.kept hch2 (fun e => by have : w1.heap.size = rb := e; omega)
  have hB0' := (HB0.out.kept hA1 id).kept hch2 (fun e => by have : w.heap.size = rb := e; omega)
  have HchA := hid ((Hch.out.same (hA1.mono (fun _ _ h => h.elim))).same hch2)
  have HR2 := hid hR2
  obtain ⟨c0, c1, c2, c3, c4, cf⟩ := hB1'.c5
  obtain ⟨d0, d1, d2, d3, d4, df⟩ := hB0'.c5
  have hne : w.heap.size ≠ w1.heap.size := by omega
  have hg0 : w.heap.size ≤ w.heap.size := Nat.le_refl _
  have hg1 : w.heap.size ≤ w1.heap.size := Hch.out.size
  have Hg0 : Hid (w.heap.size ≤ w.heap.size ∧ w.heap.size ≤ w1.heap.size) := hid ⟨hg0, hg1⟩
  clear hA1 hB1 hch2 hR2 hlt hlt0 hlt1 hB0' hB1' HA HB0 hg0 hg1
  obtain ⟨g0, hg0⟩ : ∃ g0, w.heap.size = g0 := ⟨_, rfl⟩
  obtain ⟨g1, hg1⟩ : ∃ g1, w1.heap.size = g1 := ⟨_, rfl⟩
  have Hs : Hid (w.heap.size ≤ g0 ∧ w.heap.size ≤ g1) := hid ⟨by omega, by have := Hg0.out; omega⟩
  rw [hg0] at d0 d1 d2 d3 d4 df hne ⊢
  rw [hg1] at c0 c1 c2 c3 c4 cf hne ⊢
  clear hg0 hg1 Hg0
  have hz := unzig i hi1 hi2
  have hz1 := zig_lt i hi1 hi2
  have Hzz := hid (rfl : zig i = zig i)
  generalize hm : zig i = m at hz hz1 ⊢
  have Hm := hid hm
  clear hm
  go_wp2_with fail
  refine bodyPost_ret (v := .agg #[.int .i64 2, .int .u64 0, .int .i64 i, .float .f64 0, .string ByteArray.empty]) (by rw [results_cell1 rfl]; go_simp) rfl ?_
  have hs := Hs.out
  have hcc : Chg (fun j => w.heap.size ≤ j) w2 _ := ((((((Chg.refl (fun j => w.heap.size ≤ j) w2).setCell ⟨g1, 2, none⟩ (.int .i64 i) (fun _ => hs.2)).setCell ⟨g0, 0, none⟩ (.int .i64 2) (fun _ => hs.1)).setCell ⟨g0, 1, none⟩ (.int .u64 0) (fun _ => hs.1)).setCell ⟨g0, 2, none⟩ (.int .i64 i) (fun _ => hs.1)).setCell ⟨g0, 3, none⟩ (.float .f64 0) (fun _ => hs.1)).setCell ⟨g0, 4, none⟩ (.string ByteArray.empty) (fun _ => hs.1)
  refine ⟨rfl, HchA.out.trans hcc (fun j h1 h2 => by omega), ?_⟩
  have hr := H.out.later HR2.out hcc
  rw [show at_ + (putB ⟨2, 0, i, ByteArray.empty⟩).length = at_ + 1 + (numB (zig i)).length from by simp [putB]; omega]
  exact hr

theorem rdvalue_ok (x : WV) (h : x.Ok) (rb : Nat) (a : Option Addr) (c : Nat) (bs : List UInt8) (at_ : Nat) (w : World) (hR : Reads w rb a c bs at_) (post : List UInt8) (hbs : bs.drop at_ = putB x ++ post) :
    Calls Try.prog 51 #[.pointer (some ⟨rb, 0, none⟩)] w (RdPost rb a c bs at_ x w) := by
  obtain ⟨k, u, i, s⟩ := x
  rcases h with ⟨h1, h2, h3, h4⟩ | ⟨h1, h2, h3, h3', h4⟩ | ⟨h1, h2, h3, h4⟩ <;> simp only at h1 h2 h3 h4
  · subst h1; subst h3; subst h4
    exact rdvalue_u rb a c bs at_ w hR u h2 post (by rw [hbs]; simp [putB])
  · subst h1; subst h2; subst h4
    exact rdvalue_i rb a c bs at_ w hR i h3 h3' post (by rw [hbs]; simp [putB])
  · subst h1; subst h2; subst h3
    exact rdvalue_t rb a c bs at_ w hR s h4 post (by rw [hbs]; simp [putB])
end Go.Proofs.Ytfmcfcjcmmlmfaa
