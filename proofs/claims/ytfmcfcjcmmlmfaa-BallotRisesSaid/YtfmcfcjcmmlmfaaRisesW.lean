/- The walk over BallotRises. -/
import Derived.Test.YtfmcfcjcmmlmfaaRisesP
import Derived.Test.YtfmcfcjcmmlmfaaFewW
namespace Go.Proofs.Ytfmcfcjcmmlmfaa
open Go Go.RowKit Go.Maps
set_option linter.unusedVariables false

/-- an act, as the law's argument holds it -/
structure ActT where
  k : Int
  n : Int
  slot : Int
  b : Int
  s : ByteArray
  ka : Option Addr
  kn : Nat
  kc : Nat
def ActsSeen (w : World) (v : Value) (l : List ActT) : Prop :=
  ∃ a c, v = .slice a l.length c ∧ l.length ≤ 9223372036854775807 ∧ ∀ k x, l[k]? = some x → i64r x.slot ∧ x.kn ≤ x.kc ∧ ∃ g off, a = some ⟨g, off, none⟩ ∧ w.cell? ⟨g, off + k * 6, none⟩ = some (.int .i64 x.k) ∧ w.cell? ⟨g, off + k * 6 + 1, none⟩ = some (.int .i64 x.n) ∧ w.cell? ⟨g, off + k * 6 + 2, none⟩ = some (.int .i64 x.slot)
    ∧ w.cell? ⟨g, off + k * 6 + 3, none⟩ = some (.int .i64 x.b) ∧ w.cell? ⟨g, off + k * 6 + 4, none⟩ = some (.string x.s) ∧ w.cell? ⟨g, off + k * 6 + 5, none⟩ = some (.slice x.ka x.kn x.kc)

structure RisesInv (w0 : World) (ab wb mb d : Nat) (i : Nat) (p : Int) (m : List VT) (v8 : Value) (F : Nat → Prop) (A : AccS) (wr : World) : Prop where
  acc : AccAt wr ab wb mb d 0 F A
  is : AIs A 0 p m (i * 4100)
  good : AGood p m i
  row : VRow wr v8 m
  apart : ∀ j, v8.ownBlock = some j → ¬ accF F ab wb mb j
  chg : Chg No w0 wr
  fresh : ∀ j, accF F ab wb mb j → w0.heap.size ≤ j

/-- behind an act of a round -/
structure RisesMid (w0 : World) (ab wb mb d : Nat) (i : Nat) (p : Int) (m : List VT) (v8 : Value) (p' : Int) (m' : List VT) (F : Nat → Prop) (A : AccS) (wr : World) : Prop where
  acc : AccAt wr ab wb mb d 0 F A
  is : AIs A 0 p' m' ((i + 1) * 4100)
  good : AGood p' m' (i + 1)
  grows : Grows p m p' m'
  row : VRow wr v8 m
  apart : ∀ j, v8.ownBlock = some j → ¬ accF F ab wb mb j
  chg : Chg No w0 wr
  fresh : ∀ j, accF F ab wb mb j → w0.heap.size ≤ j
theorem RisesMid.made {w0 wr w1 : World} {ab wb mb d i : Nat} {p p' : Int} {m m' : List VT} {v8 : Value} {F F' : Nat → Prop} {A A' : AccS} (h : RisesInv w0 ab wb mb d i p m v8 F A wr) (hA : AccAt w1 ab wb mb d 0 F' A') (hI : AIs A' 0 p' m' (i * 4100 + 4100)) (hg : AGood p' m' (i + 1)) (hG : Grows p m p' m')
    (hU : Upd wr (accF F ab wb mb) w1 (accF F' ab wb mb)) : RisesMid w0 ab wb mb d i p m v8 p' m' F' A' w1 := by
  have hs := h.chg.size
  refine ⟨hA, by rw [Nat.succ_mul]; exact hI, hg, hG, Row.kept h.row hU.chg (fun j hj hF => h.apart j hj hF), ?_, h.chg.trans hU.chg (fun j hj hF => by have := h.fresh j hF; omega), ?_⟩
  · intro j hj hF
    rcases hU.foot j hF with hF | hF
    · exact h.apart j hj hF
    · have := Row.lt h.row hj; omega
  · intro j hF
    rcases hU.foot j hF with hF | hF
    · exact h.fresh j hF
    · omega
theorem RisesMid.kept {w0 wr w1 : World} {ab wb mb d i : Nat} {p p' : Int} {m m' : List VT} {v8 : Value} {F : Nat → Prop} {A : AccS} (h : RisesMid w0 ab wb mb d i p m v8 p' m' F A wr) (c : Chg No wr w1) : RisesMid w0 ab wb mb d i p m v8 p' m' F A w1 :=
  ⟨h.acc.kept c (fun _ _ h => h), h.is, h.good, h.grows, Row.kept h.row c (fun _ _ h => h), h.apart, h.chg.same c, h.fresh⟩
theorem RisesInv.kept {w0 wr w1 : World} {ab wb mb d i : Nat} {p : Int} {m : List VT} {v8 : Value} {F : Nat → Prop} {A : AccS} (h : RisesInv w0 ab wb mb d i p m v8 F A wr) (c : Chg No wr w1) : RisesInv w0 ab wb mb d i p m v8 F A w1 :=
  ⟨h.acc.kept c (fun _ _ h => h), h.is, h.good, Row.kept h.row c (fun _ _ h => h), h.apart, h.chg.same c, h.fresh⟩

set_option maxRecDepth 100000 in
set_option maxHeartbeats 4000000 in
theorem rises_ok (w : World) (v : Value) (l : List ActT) (h : ActsSeen w v l) : Calls Try.prog 4 #[v] w fun e w' => e = .returned (.bool true) ∧ Chg No w w' := by
  obtain ⟨a, c, rfl, hl, hc⟩ := h
  have Hc := hid hc
  have Hl := hid hl
  clear hc hl
  have hn := hid (new_one w)
  go_enter Try.func4, Try.ntmps4
  go_wp2_with fail
  refine hn.out.mono ?_
  rintro e w1 ⟨d, F, rfl, hD, hch, hF⟩
  have ho := hid (open_one w1 d F hD)
  have Hch := hid hch
  have HF := hid hF
  clear hD hch hF
  go_wp2_with fail
  refine ho.out.mono ?_
  rintro e w2 ⟨ab, wb, mb, F2, rfl, hA, hU⟩
  have HA := hid hA
  have HU := hid hU
  have haw := hid (awake_ok w2)
  clear hA hU
  go_wp2_with fail
  refine haw.out.mono ?_
  rintro e w3 ⟨rfl, hch3⟩
  have Hch3 := hid hch3
  clear hch3
  go_upto_region 8 with (fail)
  have hst : RisesInv w ab wb mb d 0 0 [] (.slice (some ⟨w3.heap.size, 0, none⟩) 0 0) F2 (AccS.fresh disk1 0) (w3.alloc (.cells #[] 47)) := by
    have hcA : Chg No w3 (w3.alloc (.cells #[] 47)) := (Chg.refl _ _).alloc _
    have hc2 := Hch3.out.same hcA
    have hB := Blk.new w3 #[] 47
    refine ⟨HA.out.kept hc2 (fun _ _ h => h), fresh_is, good0, Row.made hB 0 0 [] rfl (Nat.le_refl _) (Nat.zero_le _) (Nat.le_refl _) (fun j u hu => by simp at hu), ?_, ?_, ?_⟩
    · intro j hj hF2
      have h1 := HA.out.fin j hF2
      have h2 : w3.heap.size = j := by simpa [Value.ownBlock] using hj
      have h3 := Hch3.out.size
      omega
    · exact (Hch.out.trans HU.out.chg (fun j hj hj2 => by have := HF.out j hj2; omega)).same hc2
    · intro j hj
      rcases HU.out.foot j hj with hj | hj
      · exact HF.out j hj
      · exact Nat.le_trans Hch.out.size hj
  have Hst := hid hst
  clear hst HA HU Hch HF Hch3
  generalize (w3.alloc (.cells #[] 47)) = W0 at *
  generalize hv8 : Value.slice (some ⟨w3.heap.size, 0, none⟩) 0 0 = v8 at *
  clear hv8
  have HcW : Hid (∀ (wr : World), Chg No w wr → ∀ k x, l[k]? = some x → i64r x.slot ∧ x.kn ≤ x.kc ∧ ∃ g off, a = some ⟨g, off, none⟩ ∧ wr.cell? ⟨g, off + k * 6, none⟩ = some (.int .i64 x.k) ∧ wr.cell? ⟨g, off + k * 6 + 1, none⟩ = some (.int .i64 x.n) ∧ wr.cell? ⟨g, off + k * 6 + 2, none⟩ = some (.int .i64 x.slot)
    ∧ wr.cell? ⟨g, off + k * 6 + 3, none⟩ = some (.int .i64 x.b) ∧ wr.cell? ⟨g, off + k * 6 + 4, none⟩ = some (.string x.s) ∧ wr.cell? ⟨g, off + k * 6 + 5, none⟩ = some (.slice x.ka x.kn x.kc)) := by
    refine hid fun wr hcw k x hx => ?_
    obtain ⟨h1, h2, g, off, ha, z0, z1, z2, z3, z4, z5⟩ := Hc.out k x hx
    exact ⟨h1, h2, g, off, ha, hcw.cellN z0, hcw.cellN z1, hcw.cellN z2, hcw.cellN z3, hcw.cellN z4, hcw.cellN z5⟩
  clear Hc
  go_loopw [7, 8, 9] (fun v7 v8 v9 wr => ∃ (i : Nat) (p : Int) (m : List VT) (F : Nat → Prop) (A : AccS), v9 = .int .i64 i ∧ v7 = .int .i64 p ∧ i ≤ 40 ∧ RisesInv w ab wb mb d i p m v8 F A wr) (fun _ _ v9 _ => 40 - (intOf v9).toNat)
  case atStart => exact ⟨0, 0, [], F2, _, rfl, rfl, by omega, Hst.out⟩
  case round =>
    as_aux_lemma =>
      obtain ⟨i, p, m, F, A, rfl, rfl, hi40, hinv⟩ := hrel
      by_cases hlen : i < l.length
      · by_cases h40 : i < 40
        · refine wp_hide fun RO HRO => ?_
          obtain ⟨x, hx⟩ : ∃ x, l[i]? = some x := ⟨_, List.getElem?_eq_getElem hlen⟩
          obtain ⟨hxs, hkn, g, off, rfl, z0, z1, z2, z3, z4, z5⟩ := HcW.out wr hinv.chg i x hx
          have Hxs := hid hxs
          have hfew := fun (k n s b : Int) (v : ByteArray) (ka : Option Addr) (kn kc : Nat) (h : kn ≤ kc) => hid (few_ok wr k n s b v ka kn kc h)
          have Hkn := hid hkn
          have Hinv := hid hinv
          have hwi : wrap64 ((i : Int) + 1) = (i : Int) + 1 := by unfold wrap64; omega
          have hIl : (i : Int) < (l.length : Int) := by omega
          clear hxs hkn hinv hx
          obtain ⟨xk, xn, xs, xb, xv, xka, xkn, xkc⟩ := x
          have Hfew := hfew xk xn xs xb xv xka xkn xkc Hkn.out
          clear hfew
          simp only at z0 z1 z2 z3 z4 z5
          go_wp2_with fail
          refine Hfew.out.mono ?_
          rintro e w4 ⟨xkn2, rfl, hch4⟩
          have Hch4 := hid hch4
          clear hch4 Hfew z0 z1 z2 z3 z4 z5
          go_upto_region 11 with (fail)
          have hB : Blk (w4.alloc (.cells #[.int .i64 xk, .int .i64 xn, .int .i64 xs, .int .i64 xb, .string (fewS xv), .slice xka xkn2 xkc] 39)) w4.heap.size #[.int .i64 xk, .int .i64 xn, .int .i64 xs, .int .i64 xb, .string (fewS xv), .slice xka xkn2 xkc] 39 := Blk.new _ _ _
          have hcA : Chg No w4 (w4.alloc (.cells #[.int .i64 xk, .int .i64 xn, .int .i64 xs, .int .i64 xb, .string (fewS xv), .slice xka xkn2 xkc] 39)) := (Chg.refl _ _).alloc _
          have Hne : Hid (¬ accF F ab wb mb w4.heap.size) := hid (fun h => by have := Hinv.out.acc.fin _ h; have := Hch4.out.size; omega)
          replace Hinv := hid (Hinv.out.kept (Hch4.out.same hcA))
          clear hcA Hch4
          have HB := hid hB
          clear hB
          generalize (w4.alloc (.cells #[.int .i64 xk, .int .i64 xn, .int .i64 xs, .int .i64 xb, .string (fewS xv), .slice xka xkn2 xkc] 39)) = W at *
          generalize w4.heap.size = xB at *
          obtain ⟨z0, z1, z2, z3, z4, z5, zf⟩ := HB.out.c6
          generalize fewS xv = xf at *
          go_upto_if 58 with (fail)
          go_cut [] (fun wc => ∃ (p' : Int) (m' : List VT) (F' : Nat → Prop) (A' : AccS), RisesMid w ab wb mb d i p m u8 p' m' F' A' wc)
          case first =>
            as_aux_lemma =>
              by_cases hk : xk = 0
              · as_aux_lemma =>
                  subst hk
                  have hp := hid (prepare_is W ab wb mb d 0 F A p m (i * 4100) xb Hinv.out.acc Hinv.out.is (by omega) _ _ _ rfl rfl rfl)
                  go_wp2_with fail
                  refine hp.out.mono ?_
                  rintro e w5 ⟨A5, v11, F5, hI5, rfl, hA5, hU5, hr5, hf5, hd5⟩
                  have hMid := RisesMid.made Hinv.out hA5 hI5 ((Hinv.out.good.prep xb).mono (by omega)) (Grows.prep p xb m) hU5
                  have hB5 := HB.out.kept hU5.chg Hne.out
                  obtain ⟨z0, z1, z2, z3, z4, z5, zf⟩ := hB5.c6
                  have hpr := promised_ok
                  have Hpr := fun n => hid (promised_ok (w5.drewN n) ab wb mb A5.prom hA5.on.head)
                  rw [hI5.prom] at Hpr
                  have HMid := hid hMid
                  have Hr5 := hid hr5
                  clear hMid hB5 hI5 hA5 hU5 hf5 hd5 hp hpr hr5
                  by_cases hc : whyF p xb = 0
                  · as_aux_lemma =>
                      have hb := (why_iff p xb).1 hc
                      have he := prep_eq hc
                      rw [hc] at Hr5
                      simp only [if_true] at Hr5
                      have Hsm := fun n => hid (same_ok (w5.drewN n) v11 u8 m m (VSeen.kept (Hr5.out.seen (by have := HMid.out.good.len; have := Hinv.out.good.len; omega)) ((Chg.refl _ _).drewN n)) (VSeen.kept (VRow.seen HMid.out.row (by have := Hinv.out.good.len; omega)) ((Chg.refl _ _).drewN n)))
                      simp only [decide_true] at Hsm
                      rw [he] at Hpr
                      rw [hc]
                      obtain ⟨⟨hb1, hb2⟩, hb3⟩ := hb
                      clear he hc
                      go_wp2_with fail
                      go_quiet ((first | (go_at_call 9; exact Calls.quiet_of (Hsm _).out) | (go_at_call 15; exact Calls.quiet_of_same (Hpr _).out)))
                      go_wp2_with fail
                      go_meet
                      exact ⟨_, _, _, _, HMid.out.kept ((Chg.refl _ _).drewN _)⟩
                  · as_aux_lemma =>
                      have hno : ¬ ((1 ≤ xb ∧ xb ≤ 1099511627776) ∧ p ≤ xb) := fun h => hc ((why_iff p xb).2 h)
                      have hor : xb < 1 ∨ (1 ≤ xb ∧ 1099511627776 < xb) ∨ (1 ≤ xb ∧ xb ≤ 1099511627776 ∧ xb < p) := by omega
                      generalize hcc : whyF p xb = cc at *
                      have hcb : (cc == 0) = false := by simpa using hc
                      clear hno hcc Hr5 Hpr
                      rcases hor with h1 | ⟨h1, h2⟩ | ⟨h1, h2, h3⟩
                      · as_aux_lemma =>
                          have q1 : decide (1 ≤ xb) = false := by simp; omega
                          clear h1
                          go_wp2_with fail
                          go_quiet (fail)
                          go_wp2_with fail
                          go_meet
                          exact ⟨_, _, _, _, HMid.out.kept ((Chg.refl _ _).drewN _)⟩
                      · as_aux_lemma =>
                          have q1 : decide (xb ≤ 1099511627776) = false := by simp; omega
                          clear h2
                          go_wp2_with fail
                          go_quiet (fail)
                          go_wp2_with fail
                          go_meet
                          exact ⟨_, _, _, _, HMid.out.kept ((Chg.refl _ _).drewN _)⟩
                      · as_aux_lemma =>
                          have q1 : decide (p ≤ xb) = false := by simp; omega
                          clear h3
                          go_wp2_with fail
                          go_quiet (fail)
                          go_wp2_with fail
                          go_meet
                          exact ⟨_, _, _, _, HMid.out.kept ((Chg.refl _ _).drewN _)⟩
              · as_aux_lemma =>
                  have ha := hid (accept_is W ab wb mb d 0 F A p m (i * 4100) xb xs xf Hinv.out.acc Hinv.out.is (by omega) (by have := Hinv.out.good.len; omega) Hxs.out _ _ _ rfl rfl rfl)
                  go_wp2_with fail
                  refine ha.out.mono ?_
                  rintro e w5 ⟨A5, F5, hI5, rfl, hA5, hU5⟩
                  have hMid := RisesMid.made Hinv.out hA5 hI5 (Hinv.out.good.acc ⟨xs, xb, xf⟩) (Hinv.out.good.accGrows ⟨xs, xb, xf⟩) hU5
                  have hB5 := HB.out.kept hU5.chg Hne.out
                  obtain ⟨z0, z1, z2, z3, z4, z5, zf⟩ := hB5.c6
                  have Hpr := fun n => hid (promised_ok (w5.drewN n) ab wb mb A5.prom hA5.on.head)
                  rw [hI5.prom] at Hpr
                  have HMid := hid hMid
                  clear hMid hB5 hI5 hA5 hU5 ha
                  by_cases hc : accCodeP p m ⟨xs, xb, xf⟩ = 0
                  · as_aux_lemma =>
                      obtain ⟨hb1, hb2⟩ := Hinv.out.good.accOk hc
                      have hb2' : accProm p m ⟨xs, xb, xf⟩ = xb := hb2
                      have hb1' : p ≤ xb := hb1
                      rw [hb2'] at Hpr
                      rw [hc]
                      clear hb1 hb2 hb2' hc
                      go_wp2_with fail
                      go_quiet ((first | (go_at_call 15; exact Calls.quiet_of_same (Hpr _).out)))
                      go_wp2_with fail
                      go_meet
                      exact ⟨_, _, _, _, HMid.out.kept ((Chg.refl _ _).drewN _)⟩
                  · as_aux_lemma =>
                      generalize hcc : accCodeP p m ⟨xs, xb, xf⟩ = cc at *
                      have hcb : (cc == 0) = false := by simpa using hc
                      clear hcc Hpr
                      go_wp2_with fail
                      go_quiet (fail)
                      go_wp2_with fail
                      go_meet
                      exact ⟨_, _, _, _, HMid.out.kept ((Chg.refl _ _).drewN _)⟩
          case rest =>
            as_aux_lemma =>
              obtain ⟨p', m', F', A', hM⟩ := hcut
              have HM := hid hM
              have hv := hid (votes_ok wc ab wb mb A'.prom A'.votes hM.acc.on.head hM.acc.on.map hM.acc.few hM.acc.slots)
              clear hM
              go_wp2_with fail
              refine hv.out.mono ?_
              rintro e w6 ⟨v14, rfl, hr6, hch6, hf6⟩
              have HM6 := hid (HM.out.kept hch6)
              have hr6' : VRow w6 v14 m' := by rw [← HM.out.is.votes]; exact hr6
              have Hap : Hid (∀ j, v14.ownBlock = some j → ¬ accF F' ab wb mb j) := hid fun j hj hF => by
                have h1 := HM.out.acc.fin j hF
                have h2 := hf6 j hj
                omega
              have Hr6 := hid hr6'
              obtain ⟨a14, c14, rfl, -, hn14⟩ := hr6'.seen (by have := HM.out.good.len; omega)
              obtain ⟨a8, c8, rfl, -, hw8⟩ := VRow.seen HM6.out.row (by have := Hinv.out.good.len; omega)
              have Hn14 := hid hn14
              have Hw8 := hid hw8
              have Hpr : Hid (∀ W, Chg No w6 W → Calls Try.prog 15 #[.pointer (some ⟨ab, 0, none⟩)] W fun e w' => e = .returned (.int .i64 p') ∧ w' = W) := hid fun W hW => by
                have := promised_ok W ab wb mb A'.prom (HM6.out.acc.kept hW (fun _ _ h => h)).on.head
                rw [HM6.out.is.prom] at this
                exact this
              have hpp := HM.out.grows.le
              have hpc := hid (Hpr.out w6 (.refl _ _))
              clear hr6 hr6' hf6 hch6 hn14 hw8
              go_wp2_with fail
              refine hpc.out.mono ?_
              rintro e w7 ⟨rfl, rfl⟩
              go_upto_region 23 with (fail)
              have hml : m.length ≤ 100 := by have := Hinv.out.good.len; omega
              have hnl : m'.length ≤ 100 := by have := HM.out.good.len; omega
              have HMl := hid hml
              have HNl := hid hnl
              generalize hLm : m.length = Lm at *
              generalize hLn : m'.length = Ln at *
              have HLm := hid hLm
              have HLn := hid hLn
              clear hml hnl hLm hLn hpp hpc hv z0 z1 z2 z3 z4 z5 zf HcW
              go_loopw [15, 16] (fun v15 v16 wq => ∃ k j : Nat, v15 = .int .i64 k ∧ v16 = .int .i64 j ∧ j ≤ Ln ∧ Merge m m' j k ∧ Chg No w7 wq) (fun _ v16 _ => Ln - (intOf v16).toNat)
              case atStart => exact ⟨0, 0, rfl, rfl, Nat.zero_le _, Merge.start _ _, .refl _ _⟩
              case round =>
                as_aux_lemma =>
                  obtain ⟨k, j, rfl, rfl, hj, hmg, hcq⟩ := hrel
                  have Hmg := hid hmg
                  have Hcq := hid hcq
                  have hwj : wrap64 ((j : Int) + 1) = (j : Int) + 1 := by have := HNl.out; unfold wrap64; omega
                  by_cases hjl : j < Ln
                  · as_aux_lemma =>
                      refine wp_hide fun RI HRI => ?_
                      obtain ⟨z, hz⟩ : ∃ z, m'[j]? = some z := ⟨_, List.getElem?_eq_getElem (by rw [HLn.out]; exact hjl)⟩
                      obtain ⟨gn, on, hgn, n0, n1, n2⟩ := Hn14.out j z hz
                      cases hgn
                      replace n0 := hcq.cellN n0
                      replace n1 := hcq.cellN n1
                      replace n2 := hcq.cellN n2
                      have hpq := fun n => hid (Hpr.out (wr.drewN n) (hcq.drewN n))
                      have hzb := HM.out.good.le z (List.mem_of_getElem? hz)
                      have hIj : (j : Int) < (Ln : Int) := by omega
                      have Hz := hid hz
                      clear hz hmg hcq
                      go_upto_region 25 with (fail)
                      go_cut [160] (fun v160 wx => v160 = .bool false ∧ Chg No w7 wx)
                      case first =>
                        as_aux_lemma =>
                          have q2 : decide (p' < z.b) = false := by simp; omega
                          by_cases hj0 : j = 0
                          · as_aux_lemma =>
                              subst hj0
                              go_quiet ((go_at_call 15; exact Calls.quiet_of_same (hpq _).out))
                              go_wp2_with fail
                              go_meet
                              exact ⟨rfl, Hcq.out.drewN _⟩
                          · as_aux_lemma =>
                              obtain ⟨j0, hj1⟩ : ∃ j0, j = j0 + 1 := ⟨j - 1, by omega⟩
                              obtain ⟨y, hy⟩ : ∃ y, m'[j0]? = some y := ⟨_, List.getElem?_eq_getElem (by rw [HLn.out]; omega)⟩
                              obtain ⟨_, _, hgn, k0, -, -⟩ := Hn14.out j0 y hy
                              cases hgn
                              replace k0 := Hcq.out.cellN k0
                              have hlt := rising_lt HM.out.good.rise hy Hz.out (by omega)
                              have q3 : decide (z.slot ≤ y.slot) = false := by simp; omega
                              have hs5 : 0 < j := by omega
                              have hs1 : IntKind.i64.wrap ((j : Int) - 1) = (j0 : Int) := by have := HNl.out; rw [IntWalk.i64_in _ (by omega)]; omega
                              have hs2 : wrap64 ((j : Int) - 1) = (j0 : Int) := by have := HNl.out; unfold wrap64; omega
                              have hs3 : (j0 : Int) < (Ln : Int) := by omega
                              have hs4 : (0 : Int) < (j : Int) := by omega
                              clear hy hlt hj0 hj1
                              go_quiet ((go_at_call 15; exact Calls.quiet_of_same (hpq _).out))
                              go_wp2_with fail
                              go_meet
                              exact ⟨rfl, Hcq.out.drewN _⟩
                      case rest =>
                        as_aux_lemma =>
                          obtain ⟨rfl, hcx⟩ := hcut
                          have Hcx := hid hcx
                          clear n0 n1 n2 hpq Hcq
                          obtain ⟨_, _, hgn, n0, n1, n2⟩ := Hn14.out j z Hz.out
                          cases hgn
                          replace n0 := hcx.cellN n0
                          replace n1 := hcx.cellN n1
                          replace n2 := hcx.cellN n2
                          clear hcx
                          by_cases hkl : k < Lm
                          · as_aux_lemma =>
                              obtain ⟨y, hy⟩ : ∃ y, m[k]? = some y := ⟨_, List.getElem?_eq_getElem (by rw [HLm.out]; exact hkl)⟩
                              obtain ⟨gw, ow, hgw, m0, m1, m2⟩ := Hw8.out k y hy
                              cases hgw
                              replace m0 := Hcx.out.cellN m0
                              replace m1 := Hcx.out.cellN m1
                              replace m2 := Hcx.out.cellN m2
                              have hIk : (k : Int) < (Lm : Int) := by omega
                              have hwk : wrap64 ((k : Int) + 1) = (k : Int) + 1 := by have := HMl.out; unfold wrap64; omega
                              by_cases hss : y.slot = z.slot
                              · as_aux_lemma =>
                                  obtain ⟨hm2, hyz⟩ := Hmg.out.same Hinv.out.good.rise HM.out.good.rise HM.out.grows Hz.out hy hss
                                  have Hm2 := hid hm2
                                  have hsb : (y.slot == z.slot) = true := by simpa using hss
                                  have hor : (y.b < z.b) ∨ z = y := hyz
                                  clear hm2 hy hyz hss
                                  go_wp2_with fail
                                  go_quiet (fail)
                                  rcases hor with hlt | rfl
                                  · as_aux_lemma =>
                                      have q1 : decide (z.b < y.b) = false := by simp; omega
                                      have q3 : (z.b == y.b) = false := by simp; omega
                                      clear hlt
                                      go_wp2_with fail
                                      go_quiet (fail)
                                      go_wp2_with fail
                                      refine hide_end HRI ?_
                                      go_roundw
                                      case rel => exact ⟨k + 1, j + 1, by go_num, by go_num, by omega, Hm2.out, Hcx.out.drewN _⟩
                                      case measure => first | (rw [hwj]; show Ln - ((j : Int) + 1).toNat < Ln - (j : Int).toNat; omega) | (show Ln - ((j : Int) + 1).toNat < Ln - (j : Int).toNat; omega)
                                  · as_aux_lemma =>
                                      go_wp2_with fail
                                      go_quiet (fail)
                                      go_wp2_with fail
                                      refine hide_end HRI ?_
                                      go_roundw
                                      case rel => exact ⟨k + 1, j + 1, by go_num, by go_num, by omega, Hm2.out, Hcx.out.drewN _⟩
                                      case measure => first | (rw [hwj]; show Ln - ((j : Int) + 1).toNat < Ln - (j : Int).toNat; omega) | (show Ln - ((j : Int) + 1).toNat < Ln - (j : Int).toNat; omega)
                              · as_aux_lemma =>
                                  have hm2 := Hmg.out.other Hinv.out.good.rise HM.out.good.rise HM.out.grows Hz.out (fun u hu => by rw [hy] at hu; cases hu; exact hss)
                                  have Hm2 := hid hm2
                                  have hsb : (y.slot == z.slot) = false := by simpa using hss
                                  clear hm2 hy hss
                                  go_wp2_with fail
                                  go_quiet (fail)
                                  go_wp2_with fail
                                  refine hide_end HRI ?_
                                  go_roundw
                                  case rel => exact ⟨k, j + 1, by go_num, by go_num, by omega, Hm2.out, Hcx.out.drewN _⟩
                                  case measure => first | (rw [hwj]; show Ln - ((j : Int) + 1).toNat < Ln - (j : Int).toNat; omega) | (show Ln - ((j : Int) + 1).toNat < Ln - (j : Int).toNat; omega)
                          · as_aux_lemma =>
                              have hm2 := Hmg.out.other Hinv.out.good.rise HM.out.good.rise HM.out.grows Hz.out (fun u hu => by have := (List.getElem?_eq_some_iff.1 hu).1; rw [HLm.out] at this; omega)
                              have Hm2 := hid hm2
                              have hkd : decide ((k : Int) < (Lm : Int)) = false := by simp; omega
                              have hkd2 : decide (k < Lm) = false := by simp; omega
                              clear hm2
                              go_wp2_with fail
                              go_quiet (fail)
                              go_wp2_with fail
                              refine hide_end HRI ?_
                              go_roundw
                              case rel => exact ⟨k, j + 1, by go_num, by go_num, by omega, Hm2.out, Hcx.out.drewN _⟩
                              case measure => first | (rw [hwj]; show Ln - ((j : Int) + 1).toNat < Ln - (j : Int).toNat; omega) | (show Ln - ((j : Int) + 1).toNat < Ln - (j : Int).toNat; omega)
                  · as_aux_lemma =>
                      have hjj : j = Ln := by omega
                      have hkk : k = Lm := by
                        rw [hjj, ← HLn.out] at hmg
                        rw [← HLm.out]
                        exact hmg.done HM.out.grows
                      have hpc2 := hid (Hpr.out wr hcq)
                      have hInv : RisesInv w ab wb mb d (i + 1) p' m' (.slice a14 Ln c14) F' A' wr :=
                        ⟨HM6.out.acc.kept hcq (fun _ _ h => h), HM6.out.is, HM6.out.good, Row.kept Hr6.out hcq (fun _ _ h => h), Hap.out, HM6.out.chg.same hcq, HM6.out.fresh⟩
                      have HInv := hid hInv
                      subst hkk
                      subst hjj
                      clear hInv hcq hmg
                      go_wp2_with fail
                      refine hpc2.out.mono ?_
                      rintro e w8 ⟨rfl, rfl⟩
                      go_wp2_with fail
                      refine hide_end HRO ?_
                      go_roundw
                      case rel => exact ⟨i + 1, p', m', F', A', by go_num, rfl, by omega, HInv.out⟩
                      case measure => first | (rw [hwi]; show 40 - ((i : Int) + 1).toNat < 40 - (i : Int).toNat; omega) | (show 40 - ((i : Int) + 1).toNat < 40 - (i : Int).toNat; omega)
        · have hi : i = 40 := by omega
          have HC := hid hinv.chg
          clear hinv
          go_wp2_with fail
          go_ret
          exact ⟨rfl, HC.out⟩
      · have HC := hid hinv.chg
        clear hinv
        go_wp2_with fail
        go_ret
        exact ⟨rfl, HC.out⟩
end Go.Proofs.Ytfmcfcjcmmlmfaa
