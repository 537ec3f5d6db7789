/- The walk over BallotLasts. -/
import Derived.Test.YtfmcfcjcmmlmfaaLastsP
import Derived.Deep.RegionHeld3
namespace Go.Proofs.Ytfmcfcjcmmlmfaa
open Go Go.RowKit Go.Maps
set_option linter.unusedVariables false

set_option maxRecDepth 100000 in
set_option maxHeartbeats 8000000 in
theorem lasts_ok (w : World) (va vb : Value) (la lb : List ActT) (keep : Int) (ha : ActsSeen w va la) (hb : ActsSeen w vb lb) : Calls Try.prog 5 #[va, vb, .int .i64 keep] w fun e w' => e = .returned (.bool true) ∧ Chg No w w' := by
  have HA := hid (fun W (h : Chg No w W) => ha.kept h)
  have HB := hid (fun W (h : Chg No w W) => hb.kept h)
  obtain ⟨aa, ac, rfl, hla, hca⟩ := ha
  obtain ⟨ba, bc, rfl, hlb, hcb⟩ := hb
  have HcA : Hid (∀ (wr : World), Chg No w wr → ∀ k x, la[k]? = some x → i64r x.slot ∧ x.kn ≤ x.kc ∧ ∃ g off, aa = some ⟨g, off, none⟩ ∧ wr.cell? ⟨g, off + k * 6, none⟩ = some (.int .i64 x.k) ∧ wr.cell? ⟨g, off + k * 6 + 1, none⟩ = some (.int .i64 x.n) ∧ wr.cell? ⟨g, off + k * 6 + 2, none⟩ = some (.int .i64 x.slot)
    ∧ wr.cell? ⟨g, off + k * 6 + 3, none⟩ = some (.int .i64 x.b) ∧ wr.cell? ⟨g, off + k * 6 + 4, none⟩ = some (.string x.s) ∧ wr.cell? ⟨g, off + k * 6 + 5, none⟩ = some (.slice x.ka x.kn x.kc)) := by
    refine hid fun wr hcw k x hx => ?_
    obtain ⟨h1, h2, g, off, ha, z0, z1, z2, z3, z4, z5⟩ := hca k x hx
    exact ⟨h1, h2, g, off, ha, hcw.cellN z0, hcw.cellN z1, hcw.cellN z2, hcw.cellN z3, hcw.cellN z4, hcw.cellN z5⟩
  have HcB : Hid (∀ (wr : World), Chg No w wr → ∀ k x, lb[k]? = some x → i64r x.slot ∧ x.kn ≤ x.kc ∧ ∃ g off, ba = some ⟨g, off, none⟩ ∧ wr.cell? ⟨g, off + k * 6, none⟩ = some (.int .i64 x.k) ∧ wr.cell? ⟨g, off + k * 6 + 1, none⟩ = some (.int .i64 x.n) ∧ wr.cell? ⟨g, off + k * 6 + 2, none⟩ = some (.int .i64 x.slot)
    ∧ wr.cell? ⟨g, off + k * 6 + 3, none⟩ = some (.int .i64 x.b) ∧ wr.cell? ⟨g, off + k * 6 + 4, none⟩ = some (.string x.s) ∧ wr.cell? ⟨g, off + k * 6 + 5, none⟩ = some (.slice x.ka x.kn x.kc)) := by
    refine hid fun wr hcw k x hx => ?_
    obtain ⟨h1, h2, g, off, ha, z0, z1, z2, z3, z4, z5⟩ := hcb k x hx
    exact ⟨h1, h2, g, off, ha, hcw.cellN z0, hcw.cellN z1, hcw.cellN z2, hcw.cellN z3, hcw.cellN z4, hcw.cellN z5⟩
  have Hla := hid hla
  have Hlb := hid hlb
  clear hca hcb hla hlb HA HB
  have hfd : ∀ (k n s b : Int) (v : ByteArray) (ka : Option Addr) (kn kc : Nat) (W : World), (Instr.field 39 (.agg #[.int .i64 k, .int .i64 n, .int .i64 s, .int .i64 b, .string v, .slice ka kn kc]) 4).run Try.prog W = .ok (.string v) W := fun _ _ _ _ _ _ _ _ _ => by kernel_rfl
  have hn := hid (new_one w)
  go_enter Try.func5, Try.ntmps5
  go_wp2_with fail
  refine hn.out.mono ?_
  rintro e w1 ⟨d, F, rfl, hD, hch, hF⟩
  have ho := hid (open_one w1 d F hD)
  have Hch := hid hch
  have HF := hid hF
  clear hD hch hF
  go_wp2_with fail
  refine ho.out.mono ?_
  rintro e w2 ⟨ab, wb, mb, F2, rfl, hA, hU⟩
  have HA := hid hA
  have HU := hid hU
  have haw := hid (awake_ok w2)
  clear hA hU
  go_wp2_with fail
  refine haw.out.mono ?_
  rintro e w3 ⟨rfl, hch3⟩
  have Hch3 := hid hch3
  clear hch3
  go_upto_block 0 with (fail)
  have hI0 : LastInv w ab wb mb d (0 + 2 * 0) [] [] 0 (.slice none 0 0) [] F2 (AccS.fresh disk1 0) w3 := by
    refine ⟨HA.out.kept Hch3.out (fun _ _ h => h), fresh_log, Nat.zero_le _, ⟨[], rfl⟩, Row.nil _ _ _, fun j hj => by simp [Value.ownBlock] at hj, ?_, ?_⟩
    · exact (Hch.out.trans HU.out.chg (fun j hj hj2 => by have := HF.out j hj2; omega)).same Hch3.out
    · intro j hj
      rcases HU.out.foot j hj with hj | hj
      · exact HF.out j hj
      · exact Nat.le_trans Hch.out.size hj
  have HI0 := hid hI0
  clear hI0 HA HU Hch HF Hch3
  generalize hW0 : w3 = W0 at *
  clear hW0
  go_cut [] (fun wc => ∃ (rs : List RecT) (F : Nat → Prop) (A : AccS), LastInv w ab wb mb d (0 + 40) [] rs 0 (.slice none 0 0) [] F A wc)
  case first =>
   as_aux_lemma =>
    go_wp2_with fail
    go_loopw [11] (fun vi wr => ∃ (i : Nat) (rs : List RecT) (F : Nat → Prop) (A : AccS), vi = .int .i64 i ∧ i ≤ 20 ∧ LastInv w ab wb mb d (0 + 2 * i) [] rs 0 (.slice none 0 0) [] F A wr) (fun vi _ => 20 - (intOf vi).toNat)
    case atStart => exact ⟨0, _, _, _, rfl, by omega, HI0.out⟩
    case round =>
      as_aux_lemma =>
        obtain ⟨i, rs, F, A, rfl, hi20, hinv⟩ := hrel
        by_cases hlen : i < la.length
        · by_cases h20 : i < 20
          · as_aux_lemma =>
              refine wp_hide fun RO HRO => ?_
              obtain ⟨x, hx⟩ : ∃ x, la[i]? = some x := ⟨_, List.getElem?_eq_getElem hlen⟩
              obtain ⟨hxs, hkn, g, off, rfl, z0, z1, z2, z3, z4, z5⟩ := HcA.out wr hinv.chg i x hx
              have Hxs := hid hxs
              have Hkn := hid hkn
              have hwi : wrap64 ((i : Int) + 1) = (i : Int) + 1 := by unfold wrap64; omega
              have hIl : (i : Int) < (la.length : Int) := by omega
              have hIi0 : (0 : Int) ≤ (i : Int) := by omega
              have hrl : rs.length ≤ 900 := by have := hinv.len; omega
              obtain ⟨xk, xn, xs, xb, xv, xka, xkn, xkc⟩ := x
              simp only at z0 z1 z2 z3 z4 z5
              have hp := hid (prepare_ls wr ab wb mb d 0 F A rs _ xb hinv.acc hinv.is hrl)
              have Hinv := hid hinv
              have Hx := hid hx
              clear hxs hkn hinv hx
              go_wp2_with fail
              refine hp.out.mono ?_
              rintro e w4 ⟨A4, v4, F4, hI4, rfl, hA4, hU4, -, -, -⟩
              have hinv4 := Hinv.out.moved (c' := 0 + 2 * i + 1) hA4 hI4 hU4 (by have := (prepL_len rs xb).2; have := Hinv.out.len; omega) (prepL_pre rs xb)
              have hgl : g < w.heap.size ∨ w.heap.size ≤ g := by omega
              have hz : ∀ W, Chg No w W → W.cell? ⟨g, off + i * 6, none⟩ = some (.int .i64 xk) ∧ W.cell? ⟨g, off + i * 6 + 1, none⟩ = some (.int .i64 xn) ∧ W.cell? ⟨g, off + i * 6 + 2, none⟩ = some (.int .i64 xs) ∧ W.cell? ⟨g, off + i * 6 + 3, none⟩ = some (.int .i64 xb) ∧ W.cell? ⟨g, off + i * 6 + 4, none⟩ = some (.string xv) ∧ W.cell? ⟨g, off + i * 6 + 5, none⟩ = some (.slice xka xkn xkc) := by
                intro W hW
                obtain ⟨-, -, g', off', he, y0, y1, y2, y3, y4, y5⟩ := HcA.out W hW i _ Hx.out
                cases he
                exact ⟨y0, y1, y2, y3, y4, y5⟩
              have HZ := hid hz
              have Hinv4 := hid hinv4
              clear hI4 hA4 hU4 hz hinv4 z0 z1 z2 z3 z4 z5 hp hgl
              generalize hrs4 : prepL rs xb = rs4 at *
              clear hrs4
              go_wp2_with fail
              have hfw := few_ok w4.drew xk xn xs xb xv xka xkn xkc Hkn.out
              have Hfw := hid hfw
              clear hfw
              go_region_held3 (fun W => W.cell? ⟨g, off + i * 6, none⟩ = some (.int .i64 xk) ∧ W.cell? ⟨g, off + i * 6 + 1, none⟩ = some (.int .i64 xn) ∧ W.cell? ⟨g, off + i * 6 + 2, none⟩ = some (.int .i64 xs) ∧ W.cell? ⟨g, off + i * 6 + 3, none⟩ = some (.int .i64 xb) ∧ W.cell? ⟨g, off + i * 6 + 4, none⟩ = some (.string xv) ∧ W.cell? ⟨g, off + i * 6 + 5, none⟩ = some (.slice xka xkn xkc))
                (first
                  | exact HZ.out _ (Hinv4.out.chg.drew)
                  | exact HZ.out _ Hc6.out
                  | exact HZ.out _ Hc5.out)
                (first
                  | (go_at_call 13
                     refine Hfw.out.mono ?_
                     rintro e w5 ⟨xkn2, rfl, hch5⟩
                     have Hinv5 := hid (Hinv4.out.kept hch5.ofDrew)
                     have Hc5 := hid Hinv5.out.chg
                     have hac := hid (accept_ls w5 ab wb mb d 0 _ _ rs4 _ xb xs (fewS xv) Hinv5.out.acc Hinv5.out.is (by have := Hinv5.out.len; omega) Hxs.out)
                     clear hch5)
                  | (go_at_call 16
                     refine hac.out.mono ?_
                     rintro e w6 ⟨A6, F6, hI6, rfl, hA6, hU6⟩
                     have Hinv6 := hid (Hinv5.out.moved (c' := 0 + 2 * (i + 1)) hA6 hI6 hU6 (by have := (accL_len rs4 ⟨xs, xb, fewS xv⟩).2; have := Hinv5.out.len; omega) (accL_pre rs4 _))
                     have Hc6 := hid Hinv6.out.chg
                     clear hI6 hA6 hU6)
                  | fail)
              all_goals
                go_wp2_with fail
                refine hide_end HRO ?_
                go_roundw
                case rel => exact ⟨i + 1, _, _, _, by go_num, by omega, Hinv6.out⟩
                case measure => first | (rw [hwi]; show 20 - ((i : Int) + 1).toNat < 20 - (i : Int).toNat; omega) | (show 20 - ((i : Int) + 1).toNat < 20 - (i : Int).toNat; omega)
          · have hI := hid (hinv.more (c' := 0 + 40) (by omega))
            have hi : i = 20 := by omega
            clear hinv
            go_wp2_with fail
            go_meet
            exact ⟨rs, F, A, hI.out⟩
        · have hI := hid (hinv.more (c' := 0 + 40) (by omega))
          clear hinv
          go_wp2_with fail
          go_meet
          exact ⟨rs, F, A, hI.out⟩
  case rest =>
    obtain ⟨rs0, F, A, hI⟩ := hcut
    obtain ⟨c0, c1, c2, cf⟩ := hI.acc.on.head.c3
    have hs := hid (sync_ls wc ab wb mb d 0 F A rs0 _ hI.acc hI.is)
    have HI := hid hI
    clear hI
    go_wp2_with fail
    refine hs.out.mono ?_
    rintro e w4 ⟨A4, F4, hI4, rfl, hA4, hU4⟩
    have hinv4 := HI.out.moved (c' := 40) hA4 hI4 hU4 (by have := HI.out.len; omega) ⟨[], by simp⟩
    have hpr := promised_ok w4 ab wb mb A4.prom hA4.on.head
    rw [hI4.prom] at hpr
    have Hpr := hid hpr
    have Hinv4 := hid hinv4
    have Hv := hid (votes_ok w4 ab wb mb A4.prom A4.votes hA4.on.head hA4.on.map hA4.few hA4.slots)
    clear hinv4 hpr hI4 hA4 hU4 hs c0 c1 c2 cf HI
    go_wp2_with fail
    refine Hpr.out.mono ?_
    rintro e w5 ⟨rfl, rfl⟩
    go_wp2_with fail
    refine Hv.out.mono ?_
    rintro e w6 ⟨v13, rfl, hr, hch, hf⟩
    have hI0 : LastInv w ab wb mb d (40 + 2 * 0) rs0 rs0 rs0.length v13 (stateR rs0).2 F4 A4 w6 := by
      have h := Hinv4.out.kept hch
      refine ⟨h.acc, h.is, by have := h.len; omega, ⟨[], by simp⟩, by rw [← h.is.votes]; exact hr, fun j hj hF => ?_, h.chg, h.fresh⟩
      have h1 := Hinv4.out.acc.fin j hF
      have h2 := hf j hj
      omega
    have HI0 := hid hI0
    clear hI0 hr hch hf Hv Hpr Hinv4
    go_upto_block 2 with (fail)
    obtain ⟨a13, c13, rfl, -, -, -⟩ := Row.cells HI0.out.row
    go_cut [] (fun wc => ∃ (rs : List RecT) (F : Nat → Prop) (A : AccS), LastInv w ab wb mb d (40 + 40) rs0 rs rs0.length (.slice a13 (stateR rs0).2.length c13) (stateR rs0).2 F A wc)
    case first =>
     as_aux_lemma =>
      go_wp2_with fail
      go_loopw [14] (fun vi wr => ∃ (i : Nat) (rs : List RecT) (F : Nat → Prop) (A : AccS), vi = .int .i64 i ∧ i ≤ 20 ∧ LastInv w ab wb mb d (40 + 2 * i) rs0 rs rs0.length (.slice a13 (stateR rs0).2.length c13) (stateR rs0).2 F A wr) (fun vi _ => 20 - (intOf vi).toNat)
      case atStart => exact ⟨0, _, _, _, rfl, by omega, HI0.out⟩
      case round =>
        as_aux_lemma =>
          obtain ⟨i, rs, F, A, rfl, hi20, hinv⟩ := hrel
          by_cases hlen : i < lb.length
          · by_cases h20 : i < 20
            · as_aux_lemma =>
                refine wp_hide fun RO HRO => ?_
                obtain ⟨x, hx⟩ : ∃ x, lb[i]? = some x := ⟨_, List.getElem?_eq_getElem hlen⟩
                obtain ⟨hxs, hkn, g, off, rfl, z0, z1, z2, z3, z4, z5⟩ := HcB.out wr hinv.chg i x hx
                have Hxs := hid hxs
                have Hkn := hid hkn
                have hwi : wrap64 ((i : Int) + 1) = (i : Int) + 1 := by unfold wrap64; omega
                have hIl : (i : Int) < (lb.length : Int) := by omega
                have hIi0 : (0 : Int) ≤ (i : Int) := by omega
                have hrl : rs.length ≤ 900 := by have := hinv.len; omega
                obtain ⟨xk, xn, xs, xb, xv, xka, xkn, xkc⟩ := x
                simp only at z0 z1 z2 z3 z4 z5
                have hp := hid (prepare_ls wr ab wb mb d 0 F A rs _ xb hinv.acc hinv.is hrl)
                have Hinv := hid hinv
                have Hx := hid hx
                clear hxs hkn hinv hx
                go_wp2_with fail
                refine hp.out.mono ?_
                rintro e w4 ⟨A4, v4, F4, hI4, rfl, hA4, hU4, -, -, -⟩
                have hinv4 := Hinv.out.moved (c' := 40 + 2 * i + 1) hA4 hI4 hU4 (by have := (prepL_len rs xb).2; have := Hinv.out.len; omega) (prepL_pre rs xb)
                have hgl : g < w.heap.size ∨ w.heap.size ≤ g := by omega
                have hz : ∀ W, Chg No w W → W.cell? ⟨g, off + i * 6, none⟩ = some (.int .i64 xk) ∧ W.cell? ⟨g, off + i * 6 + 1, none⟩ = some (.int .i64 xn) ∧ W.cell? ⟨g, off + i * 6 + 2, none⟩ = some (.int .i64 xs) ∧ W.cell? ⟨g, off + i * 6 + 3, none⟩ = some (.int .i64 xb) ∧ W.cell? ⟨g, off + i * 6 + 4, none⟩ = some (.string xv) ∧ W.cell? ⟨g, off + i * 6 + 5, none⟩ = some (.slice xka xkn xkc) := by
                  intro W hW
                  obtain ⟨-, -, g', off', he, y0, y1, y2, y3, y4, y5⟩ := HcB.out W hW i _ Hx.out
                  cases he
                  exact ⟨y0, y1, y2, y3, y4, y5⟩
                have HZ := hid hz
                have Hinv4 := hid hinv4
                clear hI4 hA4 hU4 hz hinv4 z0 z1 z2 z3 z4 z5 hp hgl
                generalize hrs4 : prepL rs xb = rs4 at *
                clear hrs4
                go_wp2_with fail
                have hfw := few_ok w4.drew xk xn xs xb xv xka xkn xkc Hkn.out
                have Hfw := hid hfw
                clear hfw
                go_region_held3 (fun W => W.cell? ⟨g, off + i * 6, none⟩ = some (.int .i64 xk) ∧ W.cell? ⟨g, off + i * 6 + 1, none⟩ = some (.int .i64 xn) ∧ W.cell? ⟨g, off + i * 6 + 2, none⟩ = some (.int .i64 xs) ∧ W.cell? ⟨g, off + i * 6 + 3, none⟩ = some (.int .i64 xb) ∧ W.cell? ⟨g, off + i * 6 + 4, none⟩ = some (.string xv) ∧ W.cell? ⟨g, off + i * 6 + 5, none⟩ = some (.slice xka xkn xkc))
                  (first
                    | exact HZ.out _ (Hinv4.out.chg.drew)
                    | exact HZ.out _ Hc6.out
                    | exact HZ.out _ Hc5.out)
                  (first
                    | (go_at_call 13
                       refine Hfw.out.mono ?_
                       rintro e w5 ⟨xkn2, rfl, hch5⟩
                       have Hinv5 := hid (Hinv4.out.kept hch5.ofDrew)
                       have Hc5 := hid Hinv5.out.chg
                       have hac := hid (accept_ls w5 ab wb mb d 0 _ _ rs4 _ xb xs (fewS xv) Hinv5.out.acc Hinv5.out.is (by have := Hinv5.out.len; omega) Hxs.out)
                       clear hch5)
                    | (go_at_call 16
                       refine hac.out.mono ?_
                       rintro e w6 ⟨A6, F6, hI6, rfl, hA6, hU6⟩
                       have Hinv6 := hid (Hinv5.out.moved (c' := 40 + 2 * (i + 1)) hA6 hI6 hU6 (by have := (accL_len rs4 ⟨xs, xb, fewS xv⟩).2; have := Hinv5.out.len; omega) (accL_pre rs4 _))
                       have Hc6 := hid Hinv6.out.chg
                       clear hI6 hA6 hU6)
                    | fail)
                all_goals
                  go_wp2_with fail
                  refine hide_end HRO ?_
                  go_roundw
                  case rel => exact ⟨i + 1, _, _, _, by go_num, by omega, Hinv6.out⟩
                  case measure => first | (rw [hwi]; show 20 - ((i : Int) + 1).toNat < 20 - (i : Int).toNat; omega) | (show 20 - ((i : Int) + 1).toNat < 20 - (i : Int).toNat; omega)
            · have hI := hid (hinv.more (c' := 40 + 40) (by omega))
              have hi : i = 20 := by omega
              clear hinv
              go_wp2_with fail
              go_meet
              exact ⟨rs, F, A, hI.out⟩
          · have hI := hid (hinv.more (c' := 40 + 40) (by omega))
            clear hinv
            go_wp2_with fail
            go_meet
            exact ⟨rs, F, A, hI.out⟩
    case rest =>
      obtain ⟨rs, F5, A5, hI⟩ := hcut
      have hpr := promised_ok wc ab wb mb A5.prom hI.acc.on.head
      rw [hI.is.prom] at hpr
      have Hpr := hid hpr
      have Hv := hid (votes_ok wc ab wb mb A5.prom A5.votes hI.acc.on.head hI.acc.on.map hI.acc.few hI.acc.slots)
      have HI := hid hI
      clear hI hpr HI0
      go_wp2_with fail
      refine Hpr.out.mono ?_
      rintro e w7 ⟨rfl, rfl⟩
      go_wp2_with fail
      refine Hv.out.mono ?_
      rintro e w8 ⟨v16, rfl, hr, hch, hf⟩
      obtain ⟨a16, c16, rfl, -, -, -⟩ := Row.cells hr
      have hvl : A5.votes.length = (stateR rs).2.length := by rw [HI.out.is.votes]
      rw [hvl]
      have HI8 := hid (HI.out.kept hch)
      clear hr hch hf Hv Hpr HI hvl
      go_wp2_with fail
      have hB := Blk.new w8 #[.int .i64 keep] 3
      have hcA : Chg No w8 (w8.alloc (.cells #[.int .i64 keep] 3)) := (Chg.refl _ _).alloc _
      have hI9 := HI8.out.kept hcA
      have hcr := dCrash (w8.alloc (.cells #[.int .i64 keep] 3)) d F5 A5.D hI9.acc.disk hI9.acc.up hI9.is.cnt (.slice (some ⟨w8.heap.size, 0, none⟩) 1 1) [keep] (Row.made hB 1 1 _ rfl (Nat.le_refl _) (by unfold maxLen; omega) (by simp) (fun j u hu => by simpa using hu)) (fun j hj hF => by
        rw [ownBlock_slice] at hj; cases hj
        have := HI8.out.acc.disk.fin _ hF; omega)
      have Hcr := hid hcr
      have HI9 := hid hI9
      clear hB hI9 hcr
      refine Hcr.out.mono ?_
      rintro e w10 ⟨rfl, hD10, hc10⟩
      have hup := hid (dUp w10 d F5 _ hD10)
      have Hc10 := hid hc10
      clear hD10 hc10 hcA Hcr
      go_wp2_with fail
      refine hup.out.mono ?_
      rintro e w11 ⟨rfl, hD11, hc11⟩
      obtain ⟨n0, hn0⟩ : ∃ n0, cut [keep] 0 (logB rs).length (logB (rs.take rs0.length)).length = n0 := ⟨_, rfl⟩
      have hcut := cut_le [keep] 0 (logB rs).length (logB (rs.take rs0.length)).length (by
        have := logB_mono rs HI9.out.is.le
        rw [List.take_length] at this
        exact this)
      rw [hn0] at hcut
      have hlog11 : (({ A5.D with logs := crashLogs [keep] 0 A5.D.logs, down := true, armed := 0 } : DiskS)).logs[0]? = some ((logB rs).take n0, n0) := by
        show (crashLogs [keep] 0 A5.D.logs)[0]? = _
        rw [crashLogs_get, HI9.out.is.log]
        simp only [Option.map_some, Nat.zero_add, hn0]
      obtain ⟨j, hj1, hj2, hlo, hL⟩ := torn_log (D := { A5.D with logs := crashLogs [keep] 0 A5.D.logs, down := false, armed := 0 }) (i := 0) HI9.out.is.ok HI9.out.is.le hcut.1 hcut.2 hlog11 (by show (crashLogs [keep] 0 A5.D.logs).length ≤ _; rw [crashLogs_len]; exact HI9.out.is.cnt)
      obtain ⟨t, ht⟩ := HI9.out.pre
      have hrj : rs.take j = rs0 ++ t.take (j - rs0.length) := by
        rw [ht, List.take_append, List.take_of_length_le hj1]
      have hrs : rs = rs.take j ++ rs.drop j := (List.take_append_drop j rs).symm
      have hvr := HI9.out.is.ok
      have hg1 : Grows (stateR rs0).1 (stateR rs0).2 (stateR (rs.take j)).1 (stateR (rs.take j)).2 := by
        have h := hvr
        rw [hrs, hrj] at h
        have := VR.grows h.pre
        rw [← hrj] at this
        exact this
      have hg2 : Grows (stateR (rs.take j)).1 (stateR (rs.take j)).2 (stateR rs).1 (stateR rs).2 := by
        have h := hvr
        rw [hrs] at h
        have := VR.grows h
        rw [← hrs] at this
        exact this
      have hvj : VR (rs.take j) := by
        have h := hvr
        rw [hrs] at h
        exact h.pre
      have hr0 : Rising VT.slot (stateR rs0).2 := by
        have h := hvr
        rw [ht] at h
        exact h.pre.good.rise
      have hgl := hg2.len hvj.good.rise hvr.good.rise
      have hjl : (rs.take j).length = j := by rw [List.length_take]; omega
      have hrl : rs.length ≤ 80 := HI9.out.len
      have hlen11 := logB_len rs hvr.ok
      have hop := open_recs w11 d F5 0 { A5.D with logs := crashLogs [keep] 0 A5.D.logs, down := false, armed := 0 } _ (rs.take j) hD11 hlog11 rfl rfl (by show ((logB rs).take n0).length ≤ _; rw [List.length_take]; omega) hlo hvj.ok (by omega)
      have hap := HI9.out.apart
      have hrow11 : VRow w11 (.slice a13 (stateR rs0).2.length c13) (stateR rs0).2 := Row.kept (Row.kept HI9.out.row Hc10.out (fun q hq hF => hap q hq (.inl hF))) hc11 (fun q hq e => hap q hq (.inl (by have : q = d := e; subst this; exact hD11.fd)))
      have hfr := HI9.out.fresh
      have hch11 : Chg No w w11 := (HI9.out.chg.trans Hc10.out (fun q hq hF => by have := hfr q (.inl hF); omega)).trans hc11 (fun q hq e => by have : q = d := e; subst this; have := hfr q (.inl hD11.fd); omega)
      have hsize11 : ∀ q, accF F5 ab wb mb q → q < w11.heap.size := fun q hq => Nat.lt_of_lt_of_le (HI9.out.acc.fin q hq) (Nat.le_trans Hc10.out.size hc11.size)
      have Hg1 := hid hg1
      have Hg2 := hid hg2
      have Hgl := hid hgl
      have Hvj := hid hvj
      have Hr0 := hid hr0
      have Hop := hid hop
      have Hap := hid hap
      have Hrow11 := hid hrow11
      have Hch11 := hid hch11
      have Hfr := hid hfr
      have Hjl := hid (show (rs.take j).length ≤ 80 by omega)
      have HL := hid hL
      clear hg1 hg2 hgl hvj hr0 hop hap hrow11 hch11 hfr hjl hrl hlen11 hvr hrs hrj ht hlo hL hlog11 hcut hn0 hD11 hc11 hup hsize11 hj1 hj2
      generalize rs.take j = rj at *
      go_wp2_with fail
      refine Hop.out.mono ?_
      rintro e w12 ⟨ab2, wb2, mb2, F2', rfl, hA12, hU12⟩
      have hrow12 := Row.kept Hrow11.out hU12.chg (fun q hq hF => Hap.out q hq (.inl hF))
      have hch12 : Chg No w w12 := Hch11.out.trans hU12.chg (fun q hq hF => by have := Hfr.out q (.inl hF); omega)
      have Hrow12 := hid hrow12
      have Hch12 := hid hch12
      have hpr := promised_ok w12 ab2 wb2 mb2 (stateR rj).1 hA12.on.head
      have Hpr := hid hpr
      have Hv := hid (votes_ok w12 ab2 wb2 mb2 (stateR rj).1 (stateR rj).2 hA12.on.head hA12.on.map hA12.few hA12.slots)
      have hle1 : ¬ (stateR rj).1 < (stateR rs0).1 := by have := Hg1.out.le; omega
      have hle2 : ¬ (stateR rs).1 < (stateR rj).1 := by have := Hg2.out.le; omega
      clear hrow12 hch12 hpr hA12 hU12 Hop Hrow11 Hch11 Hfr Hap HI9 Hc10
      go_wp2_with fail
      refine Hpr.out.mono ?_
      rintro e w13 ⟨rfl, rfl⟩
      go_wp2_with fail
      refine Hpr.out.mono ?_
      rintro e w14 ⟨rfl, rfl⟩
      go_wp2_with fail
      refine Hv.out.mono ?_
      rintro e w15 ⟨v19, rfl, hr, hch, hf⟩
      have hl0 : (stateR rs0).2.length ≤ 1000000 := by
        have h1 := Hg1.out.len Hr0.out Hvj.out.good.rise
        have h2 := stateR_len rj
        have h3 := Hjl.out
        omega
      have hlj : (stateR rj).2.length ≤ 1000000 := by
        have h2 := stateR_len rj
        have h3 := Hjl.out
        omega
      have hc15 : Chg No w w15 := Hch12.out.same hch
      obtain ⟨a19, c19, rfl, -, h19⟩ := hr.seen hlj
      obtain ⟨_, _, he13, -, h13⟩ := (VRow.seen Hrow12.out hl0).kept hch
      cases he13
      have H19 := hid h19
      have H13 := hid h13
      have Hc15 := hid hc15
      have hle3 : ((stateR rj).2.length : Int) ≤ ((stateR rs).2.length : Int) := by have := Hgl.out; omega
      have Hle3 := hid hle3
      have Hfound : Hid (∀ y ∈ (stateR rs0).2, ∃ (q : Nat) (z : VT), q < (stateR rj).2.length ∧ (stateR rj).2[q]? = some z ∧ Match z y) := hid fun y hy => Hg1.out.found hy
      have hsm0 : Hid ((stateR rs0).2.length ≤ 1000000 ∧ (stateR rj).2.length ≤ 1000000) := hid ⟨hl0, hlj⟩
      have hG := voteG
      clear hr hch hf hl0 hlj hc15 h19 h13 hle3 Hg1 Hg2 Hgl Hvj Hr0 Hjl HL Hrow12 Hch12 Hpr Hv hle1 hle2 HI8 HI0
      generalize (stateR rs0).2 = m0 at *
      generalize (stateR rj).2 = mj at *
      generalize (stateR rs).2 = mr at *
      generalize hL0 : m0.length = L0 at *
      generalize hLj : mj.length = Lj at *
      have HL0 := hid hL0
      have HLj := hid hLj
      clear hL0 hLj
      go_wp2_with fail
      go_loopw [20] (fun v20 wr => ∃ i : Nat, v20 = .int .i64 i ∧ i ≤ L0 ∧ Chg No w15 wr) (fun v20 _ => L0 - (intOf v20).toNat)
      case atStart => exact ⟨0, rfl, Nat.zero_le _, .refl _ _⟩
      case round =>
       as_aux_lemma =>
        obtain ⟨i, rfl, hi, hcr⟩ := hrel
        by_cases hlt : i < L0
        · as_aux_lemma =>
            refine wp_hide fun RO HRO => ?_
            obtain ⟨y, hy⟩ : ∃ y, m0[i]? = some y := ⟨_, List.getElem?_eq_getElem (by rw [HL0.out]; exact hlt)⟩
            obtain ⟨gy, oy, rfl, -, -, -⟩ := H13.out i y hy
            have hwi : wrap64 ((i : Int) + 1) = (i : Int) + 1 := by have := hsm0.out; unfold wrap64; omega
            have hIi : (i : Int) < (L0 : Int) := by omega
            have hIi0 : (0 : Int) ≤ (i : Int) := by omega
            have Hy := hid hy
            have Hcr := hid hcr
            have Hf := hid (Hfound.out y (List.mem_of_getElem? hy))
            clear hy hcr
            go_wp2_with fail
            go_loopw [21, 22] (fun v21 v22 wq => ∃ (k : Nat) (fb : Bool), v22 = .int .i64 k ∧ k ≤ Lj ∧ v21 = .bool fb ∧ (fb = true ↔ ∃ (q : Nat) (z : VT), q < k ∧ mj[q]? = some z ∧ Match z y) ∧ Chg No w15 wq) (fun _ v22 _ => Lj - (intOf v22).toNat)
            case atStart => exact ⟨0, false, rfl, Nat.zero_le _, rfl, ⟨(fun h => by cases h), fun ⟨q, z, hq, _⟩ => by omega⟩, Hcr.out⟩
            case round =>
             as_aux_lemma =>
              obtain ⟨k, fb, rfl, hk, rfl, hfb, hcq⟩ := hrel
              have Hfb := hid hfb
              clear hfb
              by_cases hkl : k < Lj
              · as_aux_lemma =>
                  refine wp_hide fun RI HRI => ?_
                  obtain ⟨z, hz⟩ : ∃ z, mj[k]? = some z := ⟨_, List.getElem?_eq_getElem (by rw [HLj.out]; exact hkl)⟩
                  obtain ⟨gz, oz, rfl, n0, n1, n2⟩ := H19.out k z hz
                  obtain ⟨_, _, hgy, y0, y1, y2⟩ := H13.out i y Hy.out
                  cases hgy
                  replace n0 := hcq.cellN n0
                  replace n1 := hcq.cellN n1
                  replace n2 := hcq.cellN n2
                  replace y0 := hcq.cellN y0
                  replace y1 := hcq.cellN y1
                  replace y2 := hcq.cellN y2
                  have hIk : (k : Int) < (Lj : Int) := by omega
                  have hIk0 : (0 : Int) ≤ (k : Int) := by omega
                  have hwk : wrap64 ((k : Int) + 1) = (k : Int) + 1 := by have := hsm0.out; unfold wrap64; omega
                  have Hcq := hid hcq
                  have Hz := hid hz
                  clear hcq hz
                  go_upto_region 32 with (fail)
                  have hst : (fb || decide (Match z y)) = true ↔ ∃ (q : Nat) (z : VT), q < k + 1 ∧ mj[q]? = some z ∧ Match z y := by
                    rw [Bool.or_eq_true, Hfb.out, decide_eq_true_iff]
                    constructor
                    · rintro (⟨q, u, h1, h2, h3⟩ | h)
                      · exact ⟨q, u, by omega, h2, h3⟩
                      · exact ⟨k, z, by omega, Hz.out, h⟩
                    · rintro ⟨q, u, h1, h2, h3⟩
                      rcases Nat.lt_or_ge q k with hq | hq
                      · exact .inl ⟨q, u, hq, h2, h3⟩
                      · have : q = k := by omega
                        subst this
                        rw [Hz.out] at h2
                        cases h2
                        exact .inr h3
                  have Hst := hid hst
                  clear hst
                  obtain ⟨zs, zb, zv⟩ := z
                  obtain ⟨ys, yb, yv⟩ := y
                  simp only at n0 n1 n2 y0 y1 y2
                  cases fb with
                  | true =>
                    clear n0 n1 n2 y0 y1 y2
                    go_quiet (fail)
                    go_wp2_with fail
                    refine hide_end HRI ?_
                    go_roundw
                    case rel => exact ⟨k + 1, _, by go_num, by omega, rfl, by have h := Hst.out; rw [Bool.true_or] at h; exact h, Hcq.out.drewN _⟩
                    case measure => first | (rw [hwk]; show Lj - ((k : Int) + 1).toNat < Lj - (k : Int).toNat; omega) | (show Lj - ((k : Int) + 1).toNat < Lj - (k : Int).toNat; omega)
                  | false =>
                    by_cases h1 : zs = ys
                    · subst h1
                      have heq := fun W => vote_eql ⟨zs, zb, zv⟩ ⟨zs, yb, yv⟩ W
                      simp only [VT.val] at heq
                      by_cases h2 : zb = yb ∧ zv = yv
                      · obtain ⟨rfl, rfl⟩ := h2
                        have hb : decide (Match ⟨zs, zb, zv⟩ ⟨zs, zb, zv⟩) = true := by simp [Match]
                        have Hb := hid hb
                        simp only [decide_true] at heq
                        clear hb
                        go_quiet (fail)
                        go_wp2_with fail
                        refine hide_end HRI ?_
                        go_roundw
                        case rel => exact ⟨k + 1, _, by go_num, by omega, rfl, by have h := Hst.out; rw [Hb.out, Bool.false_or] at h; exact h, Hcq.out.drewN _⟩
                        case measure => first | (rw [hwk]; show Lj - ((k : Int) + 1).toNat < Lj - (k : Int).toNat; omega) | (show Lj - ((k : Int) + 1).toNat < Lj - (k : Int).toNat; omega)
                      · have hne : ¬ ((⟨zs, zb, zv⟩ : VT) = ⟨zs, yb, yv⟩) := fun h => h2 (by cases h; exact ⟨rfl, rfl⟩)
                        have hdf := decide_eq_false hne
                        rw [hdf] at heq
                        have Hne := hid hne
                        clear hdf hne h2
                        by_cases h3 : yb < zb
                        · have hb : decide (Match ⟨zs, zb, zv⟩ ⟨zs, yb, yv⟩) = true := by simp [Match, h3]
                          have Hb := hid hb
                          clear hb
                          go_quiet (fail)
                          go_wp2_with fail
                          refine hide_end HRI ?_
                          go_roundw
                          case rel => exact ⟨k + 1, _, by go_num, by omega, rfl, by have h := Hst.out; rw [Hb.out, Bool.false_or] at h; exact h, Hcq.out.drewN _⟩
                          case measure => first | (rw [hwk]; show Lj - ((k : Int) + 1).toNat < Lj - (k : Int).toNat; omega) | (show Lj - ((k : Int) + 1).toNat < Lj - (k : Int).toNat; omega)
                        · have hb : decide (Match ⟨zs, zb, zv⟩ ⟨zs, yb, yv⟩) = false := by
                            apply decide_eq_false
                            rintro ⟨-, h | h⟩
                            · exact Hne.out h
                            · exact h3 h
                          have Hb := hid hb
                          have q3 : decide (yb < zb) = false := by simpa using h3
                          clear hb h3
                          go_quiet (fail)
                          go_wp2_with fail
                          refine hide_end HRI ?_
                          go_roundw
                          case rel => exact ⟨k + 1, _, by go_num, by omega, rfl, by have h := Hst.out; rw [Hb.out, Bool.false_or] at h; exact h, Hcq.out.drewN _⟩
                          case measure => first | (rw [hwk]; show Lj - ((k : Int) + 1).toNat < Lj - (k : Int).toNat; omega) | (show Lj - ((k : Int) + 1).toNat < Lj - (k : Int).toNat; omega)
                    · have hb : decide (Match ⟨zs, zb, zv⟩ ⟨ys, yb, yv⟩) = false := by
                        apply decide_eq_false
                        rintro ⟨h, -⟩
                        exact h1 h
                      have Hb := hid hb
                      have q1 : (zs == ys) = false := by simpa using h1
                      clear hb h1
                      go_quiet (fail)
                      go_wp2_with fail
                      refine hide_end HRI ?_
                      go_roundw
                      case rel => exact ⟨k + 1, _, by go_num, by omega, rfl, by have h := Hst.out; rw [Hb.out, Bool.false_or] at h; exact h, Hcq.out.drewN _⟩
                      case measure => first | (rw [hwk]; show Lj - ((k : Int) + 1).toNat < Lj - (k : Int).toNat; omega) | (show Lj - ((k : Int) + 1).toNat < Lj - (k : Int).toNat; omega)
              · have hkk : k = Lj := by omega
                subst hkk
                have hft : fb = true := Hfb.out.2 Hf.out
                subst hft
                have Hcq := hid hcq
                clear hcq hk hkl
                go_wp2_with fail
                refine hide_end HRO ?_
                go_roundw
                case rel => exact ⟨i + 1, by go_num, by omega, Hcq.out⟩
                case measure => first | (rw [hwi]; show L0 - ((i : Int) + 1).toNat < L0 - (i : Int).toNat; omega) | (show L0 - ((i : Int) + 1).toNat < L0 - (i : Int).toNat; omega)
        · have hle3 := Hle3.out
          have Hcr := hid hcr
          clear hcr
          go_wp2_with fail
          go_ret
          exact ⟨rfl, Hc15.out.same Hcr.out⟩
end Go.Proofs.Ytfmcfcjcmmlmfaa
