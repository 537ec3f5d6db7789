/- Walks over wire's reader, at bytes that were written. -/
import Derived.Test.YtfmcfcjcmmlmfaaPack2W
import Derived.Test.YtfmcfcjcmmlmfaaScanW
namespace Go.Proofs.Ytfmcfcjcmmlmfaa
set_option maxRecDepth 100000
open Go Go.RowKit
set_option linter.unusedVariables false

/-- a reader at a place of bytes -/
structure Reads (w : World) (rb : Nat) (a : Option Addr) (c : Nat) (bs : List UInt8) (at_ : Nat) : Prop where
  blk : Blk w rb #[.slice a bs.length c, .int .i64 at_] 125
  byt : Byt w a bs
  apart : ∀ g off, a = some ⟨g, off, none⟩ → 0 < bs.length → g ≠ rb
  cap : bs.length ≤ c
  le : bs.length ≤ 4194304

theorem Reads.moved {w w' : World} {rb at_ at' : Nat} {a : Option Addr} {c : Nat} {bs : List UInt8} (h : Reads w rb a c bs at_) (ch : Chg (One rb) w w') (hb : Blk w' rb #[.slice a bs.length c, .int .i64 at'] 125) : Reads w' rb a c bs at' :=
  ⟨hb, fun j hj => by
    obtain ⟨g, off, ha, hc⟩ := h.byt j hj
    refine ⟨g, off, ha, (ch.cell (p := ⟨g, off + j, none⟩) (World.block_lt_of_cell? w _ hc) (fun e => h.apart g off ha (by omega) e)).trans hc⟩, h.apart, h.cap, h.le⟩
theorem Reads.kept {w w' : World} {rb at_ : Nat} {a : Option Addr} {c : Nat} {bs : List UInt8} (h : Reads w rb a c bs at_) (ch : Chg No w w') : Reads w' rb a c bs at_ :=
  ⟨h.blk.kept ch id, Byt.kept h.byt ch, h.apart, h.cap, h.le⟩

set_option maxHeartbeats 400000 in
theorem next_ok (rb : Nat) (a : Option Addr) (c : Nat) (bs : List UInt8) (at_ : Nat) (w : World) (h : Reads w rb a c bs at_) (hat : at_ < bs.length) :
    Calls Try.prog 61 #[.pointer (some ⟨rb, 0, none⟩)] w fun e w' => e = .returned (.int .u8 bs[at_].toNat) ∧ Chg (One rb) w w' ∧ Reads w' rb a c bs (at_ + 1) := by
  have H := hid h
  obtain ⟨c0, c1, hf⟩ := h.blk.c2
  have hle := h.le
  obtain ⟨g, off, rfl, hc⟩ := h.byt at_ hat
  have hg := h.apart g off rfl (by omega)
  unfold bv at hc
  generalize hb : bs[at_].toNat = x at *
  have Hb := hid hb
  have hI : ¬ (bs.length : Int) ≤ at_ := by omega
  have hw1 : wrap64 ((at_ : Int) + 1) = (at_ : Int) + 1 := by unfold wrap64; omega
  have hw2 : IntKind.i64.wrap ((at_ : Int) + 1 - 1) = (at_ : Int) := by rw [IntWalk.i64_in _ (by omega)]; omega
  clear h hb
  go_enter Try.func61, Try.ntmps61
  go_wp2_with fail
  go_quiet (fail)
  go_wp2_with fail
  have hB : Blk (w.drewN nq) rb #[.slice (some ⟨g, off, none⟩) bs.length c, .int .i64 at_] 125 := H.out.blk
  have hch : Chg (One rb) w ((w.drewN nq).setCell ⟨rb, 1, none⟩ (.int .i64 ((at_ : Int) + 1))) := (Chg.drewN (.refl _ w) nq).setCell _ _ (fun _ => rfl)
  have hB2 := hB.set 1 (.int .i64 ((at_ : Int) + 1))
  simp only [List.setIfInBounds_toArray, List.set_cons_succ, List.set_cons_zero] at hB2
  have hR : Reads ((w.drewN nq).setCell ⟨rb, 1, none⟩ (.int .i64 ((at_ : Int) + 1))) rb (some ⟨g, off, none⟩) c bs (at_ + 1) := H.out.moved hch hB2
  have hg1 : ((w.drewN nq).setCell ⟨rb, 1, none⟩ (.int .i64 ((at_ : Int) + 1))).cell? ⟨g, off + at_, none⟩ = some (.int .u8 x) := (hch.cell (World.block_lt_of_cell? w _ hc) (fun e => hg e)).trans hc
  obtain ⟨d0, d1, df⟩ := hB2.c2
  have HR := hid hR
  have HC := hid hch
  clear hB hB2 hR hch c0 c1 hf hc
  generalize (w.drewN nq).setCell ⟨rb, 1, none⟩ (.int .i64 ((at_ : Int) + 1)) = W at *
  go_quiet (fail)
  go_wp2_with fail
  go_ret
  have hC := HC.out
  have hR := HR.out
  exact ⟨rfl, hC.drewN _, hR.kept ((Chg.refl _ _).drewN _)⟩
end Go.Proofs.Ytfmcfcjcmmlmfaa
