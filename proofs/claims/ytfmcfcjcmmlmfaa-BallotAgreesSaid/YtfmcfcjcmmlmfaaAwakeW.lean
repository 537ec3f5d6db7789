/- Walk over the law's example: awake. -/
import Derived.Test.YtfmcfcjcmmlmfaaAccS
namespace Go.Proofs.Ytfmcfcjcmmlmfaa
open Go Go.RowKit Go.Maps
set_option linter.unusedVariables false

def sA : ByteArray := { data := #[97] }
def sB : ByteArray := { data := #[98] }
def sC : ByteArray := { data := #[99] }

/-- a new disk and its acceptor -/
theorem new_one (w : World) : Calls Try.prog 11 #[.int .i64 1] w fun e w' => ∃ d F, e = .returned (.tuple #[.pointer (some ⟨d, 0, none⟩), .int .i64 0]) ∧ DiskAt w' d F disk1 ∧ Chg No w w' ∧ (∀ j, F j → w.heap.size ≤ j) :=
  (dNew 1 (by omega) (by omega) w).mono fun e w' h => h
theorem open_one (w : World) (d : Nat) (F : Nat → Prop) (h : DiskAt w d F disk1) : Calls Try.prog 12 #[.pointer (some ⟨d, 0, none⟩), .int .i64 0] w (AOpenPost w d 0 F (AccS.fresh disk1 0)) :=
  open0_ok w d F 0 disk1 ([], 0) h rfl rfl rfl (by simp) disk1_loads

set_option maxRecDepth 100000 in
set_option maxHeartbeats 4000000 in
theorem awake_ok (w : World) : Calls Try.prog 7 #[] w fun e w' => e = .returned (.bool true) ∧ Chg No w w' := by
  have hn := hid (new_one w)
  go_enter Try.func7, Try.ntmps7
  go_wp2_with fail
  refine hn.out.mono ?_
  rintro e w1 ⟨d, F, rfl, hD, hch, hF⟩
  have ho := hid (open_one w1 d F hD)
  have Hch := hid hch
  have HF := hid hF
  clear hD hch hF
  go_wp2_with fail
  refine ho.out.mono ?_
  rintro e w2 ⟨ab, wb, mb, F2, rfl, hA, hU⟩
  have hI := fresh_is
  have hp := hid (prepare_is w2 ab wb mb d 0 F2 _ 0 [] 0 5 hA hI (by omega) 0 5 [] (by decide) (by decide) (by decide))
  have HU := hid hU
  clear hA hU hI
  go_wp2_with fail
  refine hp.out.mono ?_
  rintro e w3 ⟨A3, v3, F3, hI, rfl, hA, hU, hr3, -, -⟩
  obtain ⟨a3, c3, rfl, -, -, -⟩ := Row.cells hr3
  have ha := hid (accept_is w3 ab wb mb d 0 F3 A3 5 [] _ 5 1 sA hA hI (by omega) (by simp) (by unfold i64r; omega) 0 5 [⟨1, 5, sA⟩] (by decide) (by decide) (by decide))
  replace HU := hid (HU.out.trans hU)
  clear hp hr3 hA hU hI
  go_wp2_with fail
  refine ha.out.mono ?_
  rintro e w4 ⟨A4, F4, hI, rfl, hA, hU⟩
  have ha2 := hid (accept_is w4 ab wb mb d 0 F4 A4 5 [⟨1, 5, sA⟩] _ 4 1 sB hA hI (by omega) (by simp) (by unfold i64r; omega) 234 5 [⟨1, 5, sA⟩] (by decide) (by decide) (by decide))
  replace HU := hid (HU.out.trans hU)
  clear ha hA hU hI
  go_wp2_with fail
  refine ha2.out.mono ?_
  rintro e w5 ⟨A5, F5, hI, rfl, hA, hU⟩
  have ha3 := hid (accept_is w5 ab wb mb d 0 F5 A5 5 [⟨1, 5, sA⟩] _ 5 1 sB hA hI (by omega) (by simp) (by unfold i64r; omega) 235 5 [⟨1, 5, sA⟩] (by decide) (by decide) (by decide))
  replace HU := hid (HU.out.trans hU)
  clear ha2 hA hU hI
  go_wp2_with fail
  refine ha3.out.mono ?_
  rintro e w6 ⟨A6, F6, hI, rfl, hA, hU⟩
  have ha4 := hid (accept_is w6 ab wb mb d 0 F6 A6 5 [⟨1, 5, sA⟩] _ 7 2 sC hA hI (by omega) (by simp) (by unfold i64r; omega) 0 7 [⟨1, 5, sA⟩, ⟨2, 7, sC⟩] (by decide) (by decide) (by decide))
  replace HU := hid (HU.out.trans hU)
  clear ha3 hA hU hI
  go_wp2_with fail
  refine ha4.out.mono ?_
  rintro e w7 ⟨A7, F7, hI, rfl, hA, hU⟩
  have hp2 := hid (prepare_is w7 ab wb mb d 0 F7 A7 7 [⟨1, 5, sA⟩, ⟨2, 7, sC⟩] _ 6 hA hI (by omega) 234 7 [] (by decide) (by decide) (by decide))
  replace HU := hid (HU.out.trans hU)
  clear ha4 hA hU hI
  go_wp2_with fail
  refine hp2.out.mono ?_
  rintro e w8 ⟨A8, v8, F8, hI, rfl, hA, hU, hr8, -, -⟩
  obtain ⟨a8, c8, rfl, -, -, -⟩ := Row.cells hr8
  have hp3 := hid (prepare_is w8 ab wb mb d 0 F8 A8 7 [⟨1, 5, sA⟩, ⟨2, 7, sC⟩] _ 7 hA hI (by omega) 0 7 [⟨1, 5, sA⟩, ⟨2, 7, sC⟩] (by decide) (by decide) (by decide))
  replace HU := hid (HU.out.trans hU)
  clear hp2 hA hU hI hr8
  go_wp2_with fail
  refine hp3.out.mono ?_
  rintro e w9 ⟨A9, v9, F9, hI, rfl, hA, hU, hr9, hf9, -⟩
  replace HU := hid (HU.out.trans hU)
  have HA := hid hA
  have HI9 := hid hI
  have HS := hid (hr9.seen (by simp))
  obtain ⟨a9, c9, rfl, -, -, -⟩ := Row.cells hr9
  clear hp3 hA hU hI hr9 hf9
  have hV : VVSeen ((w9.alloc (.cells #[.int .i64 1, .int .i64 6, .string sB, .int .i64 3, .int .i64 1, .string sC] 47)).alloc (.cells #[.slice a9 2 c9, .slice (some ⟨w9.heap.size, 0, none⟩) 2 2] 23)) (.slice (some ⟨w9.heap.size + 1, 0, none⟩) 2 2) [[⟨1, 5, sA⟩, ⟨2, 7, sC⟩], [⟨1, 6, sB⟩, ⟨3, 1, sC⟩]] := by
    have hc1 : Chg No w9 (w9.alloc (.cells #[.int .i64 1, .int .i64 6, .string sB, .int .i64 3, .int .i64 1, .string sC] 47)) := (Chg.refl _ _).alloc _
    have hc2 : Chg No (w9.alloc (.cells #[.int .i64 1, .int .i64 6, .string sB, .int .i64 3, .int .i64 1, .string sC] 47)) ((w9.alloc (.cells #[.int .i64 1, .int .i64 6, .string sB, .int .i64 3, .int .i64 1, .string sC] 47)).alloc (.cells #[.slice a9 2 c9, .slice (some ⟨w9.heap.size, 0, none⟩) 2 2] 23)) := (Chg.refl _ _).alloc _
    have hB1 := Blk.kept (Blk.new w9 #[.int .i64 1, .int .i64 6, .string sB, .int .i64 3, .int .i64 1, .string sC] 47) hc2 id
    have hB2 := Blk.new (w9.alloc (.cells #[.int .i64 1, .int .i64 6, .string sB, .int .i64 3, .int .i64 1, .string sC] 47)) #[.slice a9 2 c9, .slice (some ⟨w9.heap.size, 0, none⟩) 2 2] 23
    have hsz : (w9.alloc (.cells #[.int .i64 1, .int .i64 6, .string sB, .int .i64 3, .int .i64 1, .string sC] 47)).heap.size = w9.heap.size + 1 := by simp
    rw [hsz] at hB2
    refine ⟨_, _, rfl, by simp, fun k l hk => ?_⟩
    match k, hk with
    | 0, hk => cases hk; exact ⟨_, _, .slice a9 2 c9, rfl, hB2.cell 0 rfl, HS.out.kept (hc1.same hc2)⟩
    | 1, hk =>
      cases hk
      refine ⟨_, _, .slice (some ⟨w9.heap.size, 0, none⟩) 2 2, rfl, hB2.cell 1 rfl, _, _, rfl, by simp, fun k l hk => ?_⟩
      match k, hk with
      | 0, hk => cases hk; exact ⟨_, _, rfl, hB1.cell 0 rfl, hB1.cell 1 rfl, hB1.cell 2 rfl⟩
      | 1, hk => cases hk; exact ⟨_, _, rfl, hB1.cell 3 rfl, hB1.cell 4 rfl, hB1.cell 5 rfl⟩
      | k + 2, hk => simp at hk
    | k + 2, hk => simp at hk
  have hP := hid (pick_ok _ _ _ hV (by simp) (by intro x hx; simp at hx; rcases hx with rfl | rfl | rfl | rfl <;> (unfold i64r; simp)))
  clear hV
  unfold sB sC at hP
  go_wp2_with fail
  refine hP.out.mono ?_
  rintro e w10 ⟨u, rfl, hru, hcu, hfu⟩
  have e1 : pickF [[(⟨1, 5, sA⟩ : VT), ⟨2, 7, sC⟩], [⟨1, 6, sB⟩, ⟨3, 1, sC⟩]].flatten = [⟨1, 6, sB⟩, ⟨2, 7, sC⟩, ⟨3, 1, sC⟩] := by decide
  replace hru : VRow w10 u [⟨1, 6, sB⟩, ⟨2, 7, sC⟩, ⟨3, 1, sC⟩] := by rw [← e1]; exact hru
  have hcA : Chg No w9 w10 := (((Chg.refl No w9).alloc _).alloc _).same hcu
  have hA10 := HA.out.kept hcA (fun _ _ h => h)
  have hpr := hid (promised_ok w10 ab wb mb A9.prom hA10.on.head)
  rw [HI9.out.prom] at hpr
  have hsy := hid (sync_is w10 ab wb mb d 0 F9 A9 7 _ _ hA10 HI9.out)
  obtain ⟨c0, c1, c2, hfr⟩ := hA10.on.head.c3
  replace HU : Hid (Upd w1 F w10 (accF F9 ab wb mb)) := hid ⟨HU.out.chg.same (hcA.mono (fun _ _ h => h.elim)), HU.out.foot⟩
  have hS10 := HS.out.kept hcA
  obtain ⟨_, _, e9, -, hs9⟩ := hS10
  obtain ⟨g9, o9, he9, -, -, hv9⟩ := hs9 1 ⟨2, 7, sC⟩ rfl
  cases e9
  subst he9
  have hSu := hru.seen (by simp)
  obtain ⟨ua, uc, rfl, -, hsu⟩ := hSu
  obtain ⟨gu, ou, rfl, -, -, hu0⟩ := hsu 0 ⟨1, 6, sB⟩ rfl
  obtain ⟨_, _, hge, -, hu1, -⟩ := hsu 1 ⟨2, 7, sC⟩ rfl
  cases hge
  simp only at hv9 hu0 hu1
  have q1 : sC.toList = [99] := by rw [ByteArray.toList_eq]; rfl
  have q2 : sB.toList = [98] := by rw [ByteArray.toList_eq]; rfl
  have HFin := hid (HA.out.fin)
  have HFu : Hid (w9.heap.size ≤ gu) := hid (by have := hfu gu rfl; simp at this; omega)
  have HV := hid hu0
  have HV1 := hid hu1
  clear hfu hu0 hu1
  clear hP hcA hcu hru hs9 hsu e1
  clear hA10
  go_wp2_with fail
  refine hpr.out.mono ?_
  rintro e w11 ⟨rfl, rfl⟩
  go_wp2_with fail
  refine hsy.out.mono ?_
  rintro e w12 ⟨A12, F12, -, rfl, -, hU12⟩
  have hne : ¬ accF F9 ab wb mb gu := fun h => by have := HFin.out _ h; have := HFu.out; omega
  have z0 := (hU12.chg.cell (p := ⟨gu, ou + 0 * 3 + 2, none⟩) (World.block_lt_of_cell? w11 _ HV.out) hne).trans HV.out
  have z1 := (hU12.chg.cell (p := ⟨gu, ou + 1 * 3 + 1, none⟩) (World.block_lt_of_cell? w11 _ HV1.out) hne).trans HV1.out
  replace HU := hid (HU.out.trans hU12)
  clear hne hU12
  simp only [Nat.zero_mul, Nat.one_mul, Nat.add_zero] at z0 z1
  go_wp2_with fail
  go_ret
  refine ⟨rfl, Hch.out.trans HU.out.chg (fun j hj hF => by have := HF.out j hF; omega)⟩
end Go.Proofs.Ytfmcfcjcmmlmfaa
