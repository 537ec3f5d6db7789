/- BallotPicks: the argument opened, the walk over the law, the statement. No condition. -/
import Derived.Test.YtfmcfcjcmmlmfaaRows
import Derived.Test.YtfmcfcjcmmlmfaaRefPickW
import Derived.Test.YtfmcfcjcmmlmfaaAwakeW
import Derived.Test.YtfmcfcjcmmlmfaaFewW
import Derived.Test.YtfmcfcjcmmlmfaaArgW
import Derived.SizedLaws
import Derived.ProofKit
import Derived.OpenShut
import Derived.ShutString
import Derived.ChangeOld
import Derived.Below
namespace Go.Proofs.Ytfmcfcjcmmlmfaa
open Go Go.RowKit Go.Maps Go.ChangeShapes Go.WideShapes Go.ChangeAt
set_option linter.unusedVariables false

/-- votes that can be read, however many -/
def VAny (w : World) (v : Value) (l : List VT) : Prop :=
  ∃ a c, v = .slice a l.length c ∧ ∀ k x, l[k]? = some x → ∃ g off, a = some ⟨g, off, none⟩ ∧ w.cell? ⟨g, off + k * 3, none⟩ = some (.int .i64 x.slot) ∧ w.cell? ⟨g, off + k * 3 + 1, none⟩ = some (.int .i64 x.b) ∧ w.cell? ⟨g, off + k * 3 + 2, none⟩ = some (.string x.s)
def VVAny (w : World) (v : Value) (ll : List (List VT)) : Prop :=
  ∃ a c, v = .slice a ll.length c ∧ ll.length ≤ 9223372036854775807 ∧ (∀ l ∈ ll, l.length ≤ 4398046511104 ∧ ∀ x ∈ l, i64r x.slot) ∧ ∀ k l, ll[k]? = some l → ∃ g off u, a = some ⟨g, off, none⟩ ∧ w.cell? ⟨g, off + k, none⟩ = some u ∧ VAny w u l
theorem VVSeen.kept {w w' : World} {v : Value} {ll : List (List VT)} (h : VVSeen w v ll) (c : Chg No w w') : VVSeen w' v ll := by
  obtain ⟨a, cp, rfl, hl, hc⟩ := h
  refine ⟨a, cp, rfl, hl, fun k l hx => ?_⟩
  obtain ⟨g, off, u, ha, h0, h1⟩ := hc k l hx
  exact ⟨g, off, u, ha, c.cellN h0, h1.kept c⟩
theorem flatten_take_len {α : Type} (ll : List (List α)) (i : Nat) (B : Nat) (h : ∀ l ∈ ll, l.length ≤ B) : (ll.take i).flatten.length ≤ i * B := by
  induction i generalizing ll with
  | zero => simp
  | succ i ih =>
    cases ll with
    | nil => simp
    | cons x r =>
      have := ih r (fun l hl => h l (List.mem_cons_of_mem _ hl))
      have hx := h x (by simp)
      simp only [List.take_succ_cons, List.flatten_cons, List.length_append, Nat.succ_mul]
      omega
theorem seen_one {w : World} {v u : Value} {l : List VT} {g : Nat} {e : TypeId} (hb : Blk w g #[u] e) (hu : VSeen w u l) : VVSeen w (.slice (some ⟨g, 0, none⟩) 1 1) [l] := by
  refine ⟨_, 1, rfl, by simp, fun k l' hl => ?_⟩
  cases k with
  | zero => cases hl; exact ⟨g, 0, u, rfl, hb.cell 0 rfl, hu⟩
  | succ k => simp at hl
theorem seen_two {w : World} {u : Value} {l : List VT} {g : Nat} {e : TypeId} (hb : Blk w g #[u, u] e) (hu : VSeen w u l) : VVSeen w (.slice (some ⟨g, 0, none⟩) 2 2) [l, l] := by
  refine ⟨_, 2, rfl, by simp, fun k l' hl => ?_⟩
  match k with
  | 0 => cases hl; exact ⟨g, 0, u, rfl, hb.cell 0 rfl, hu⟩
  | 1 => cases hl; exact ⟨g, 0, u, rfl, hb.cell 1 rfl, hu⟩
  | k + 2 => simp at hl

set_option maxRecDepth 100000 in
set_option maxHeartbeats 4000000 in
theorem picks_ok (w : World) (v : Value) (ll : List (List VT)) (h : VVAny w v ll) : Calls Try.prog 3 #[v] w fun e w' => e = .returned (.bool true) ∧ Chg No w w' := by
  obtain ⟨a, c, rfl, hl, hb, hc⟩ := h
  have Hc := hid hc
  have Hl := hid hl
  have Hb := hid hb
  have haw := hid (awake_ok w)
  clear hc hb
  go_enter Try.func3, Try.ntmps3
  go_wp2_with fail
  go_loop [3, 4] (fun v3 v4 => ∃ (i : Nat) (s : Int), v4 = .int .i64 i ∧ v3 = .int .i64 s ∧ i ≤ ll.length ∧ (ll.length ≤ 100 → s = ((ll.take i).flatten.length : Int))) (fun _ v4 => ll.length - (intOf v4).toNat)
  case atStart => exact ⟨0, 0, rfl, rfl, Nat.zero_le _, fun _ => by simp⟩
  case round =>
    obtain ⟨i, s, rfl, rfl, hi, hs⟩ := hrel
    have Hs := hid hs
    clear hs
    by_cases hlt : i < ll.length
    · obtain ⟨l, hx⟩ : ∃ l, ll[i]? = some l := ⟨_, List.getElem?_eq_getElem hlt⟩
      obtain ⟨g, off, u, rfl, z0, ua, uc, rfl, hua⟩ := Hc.out i l hx
      have hIl : (i : Int) < (ll.length : Int) := by omega
      have hwi : wrap64 ((i : Int) + 1) = (i : Int) + 1 := by have := Hl.out; unfold wrap64; omega
      have Hx := hid hx
      clear hx hua
      go_wp2_with fail
      go_round
      case rel =>
        refine ⟨i + 1, _, by go_num, rfl, by omega, fun h100 => ?_⟩
        have h1 := Hs.out h100
        have h2 := flatten_take_len ll i 4398046511104 (fun l hl => (Hb.out l hl).1)
        have h3 := (Hb.out l (List.mem_of_getElem? Hx.out)).1
        have h4 : (ll.take (i + 1)).flatten.length = (ll.take i).flatten.length + l.length := by rw [List.take_add_one, Hx.out]; simp
        rw [h4, h1]
        generalize (ll.take i).flatten.length = q at *
        have h5 : q ≤ 100 * 4398046511104 := Nat.le_trans h2 (Nat.mul_le_mul_right _ (by omega))
        clear hwi Hs
        first
          | (unfold wrap64; omega)
          | (show IntKind.i64.wrap _ = _; rw [IntWalk.i64_in _ (by omega)]; omega)
          | omega
      case measure => first | (rw [hwi]; show ll.length - ((i : Int) + 1).toNat < ll.length - (i : Int).toNat; omega) | (show ll.length - ((i : Int) + 1).toNat < ll.length - (i : Int).toNat; omega)
    · have hii : i = ll.length := by omega
      subst hii
      by_cases h200 : 200 < s
      · clear Hc
        go_wp2_with fail
        refine haw.out.mono ?_
        rintro e w1 ⟨rfl, hch⟩
        have Hch := hid hch
        clear hch
        go_wp2_with fail
        go_ret
        exact ⟨rfl, Hch.out⟩
      · by_cases h100 : 100 < ll.length
        · have h100' : (100 : Int) < (ll.length : Int) := by omega
          go_wp2_with fail
          refine haw.out.mono ?_
          rintro e w1 ⟨rfl, hch⟩
          have Hch := hid hch
          clear hch
          go_wp2_with fail
          go_ret
          exact ⟨rfl, Hch.out⟩
        · have hs := Hs.out (by omega)
          rw [List.take_length] at hs
          have hfl : ll.flatten.length ≤ 200 := by omega
          have hvv : VVSeen w (.slice a ll.length c) ll := by
            refine ⟨a, c, rfl, by omega, fun k l hx => ?_⟩
            obtain ⟨g, off, u, ha, z0, ua, uc, hu, hua⟩ := Hc.out k l hx
            refine ⟨g, off, u, ha, z0, ua, uc, hu, ?_, hua⟩
            have : l.length ≤ ll.flatten.length := by
              have := (List.sublist_flatten_of_mem (List.mem_of_getElem? hx)).length_le
              exact this
            omega
          have hslots : ∀ x ∈ ll.flatten, i64r x.slot := by
            intro x hx
            obtain ⟨l, h1, h2⟩ := List.mem_flatten.1 hx
            exact (Hb.out l h1).2 x h2
          have Hvv := hid hvv
          have hp := hid (pick_ok w _ ll hvv (by omega) hslots)
          have hpl := pickF_len ll.flatten
          have hpe1 : pickF [pickF ll.flatten].flatten = pickF ll.flatten := by
            rw [List.flatten_singleton]; exact pickF_of_rising (pickF_rising _)
          have hpe2 : pickF [pickF ll.flatten, pickF ll.flatten].flatten = pickF ll.flatten := by
            show pickF (pickF ll.flatten ++ (pickF ll.flatten ++ [])) = _
            rw [List.append_nil]; exact pickF_twice _
          have hps : ∀ x ∈ pickF ll.flatten, i64r x.slot := fun x hx => hslots x (pickF_mem _ x hx)
          have href := fun W (hv : VVSeen W (.slice a ll.length c) ll) => hid (refpick_ok W _ ll hv (by omega))
          have Href := hid href
          have Hpe1 := hid hpe1
          have Hpe2 := hid hpe2
          have Hps := hid hps
          have hPl : (pickF ll.flatten).length ≤ 200 := by omega
          have HPl := hid hPl
          clear hs hfl hvv hslots hpl hpe1 hpe2 hps href hPl Hs Hc Hb haw
          generalize pickF ll.flatten = P at *
          go_wp2_with fail
          refine hp.out.mono ?_
          rintro e w1 ⟨u, rfl, h1, h2, h3⟩
          obtain ⟨ua, uc, rfl, -, -, -⟩ := Row.cells h1
          have hus : VSeen w1 (.slice ua P.length uc) P := VRow.seen h1 (by have := HPl.out; omega)
          have Hus := hid hus
          have Hch1 := hid h2
          have hawk := hid (awake_ok w1)
          clear hus h1 h2 h3
          go_wp2_with fail
          refine hawk.out.mono ?_
          rintro e w2 ⟨rfl, hch⟩
          have Hch2 := hid (Hch1.out.same hch)
          replace Hus := hid (Hus.out.kept hch)
          have hr := Href.out w2 (Hvv.out.kept Hch2.out)
          clear hch
          go_wp2_with fail
          refine hr.out.mono ?_
          rintro e w3 ⟨u3, rfl, h1, h2, h3⟩
          have Hch3 := hid (Hch2.out.same h2)
          replace Hus := hid (Hus.out.kept h2)
          have hsm := hid (same_ok w3 _ u3 P P Hus.out (VRow.seen h1 (by have := HPl.out; omega)))
          simp only [decide_true] at hsm
          clear h1 h2 h3 hr
          go_wp2_with fail
          refine hsm.out.mono ?_
          rintro e w4 ⟨rfl, q, rfl⟩
          have Hch4 := hid (Hch3.out.drewN q)
          replace Hus := hid (Hus.out.kept ((Chg.refl _ _).drewN q))
          clear hsm
          generalize hW4 : w3.drewN q = w4 at *
          clear hW4
          go_wp2_with fail
          have hcA : Chg No w4 (w4.alloc (.cells #[.slice ua P.length uc] 23)) := (Chg.refl _ _).alloc _
          have hB := Blk.new w4 #[.slice ua P.length uc] 23
          have HusA := hid (Hus.out.kept hcA)
          have hp1 := hid (pick_ok _ _ [P] (seen_one (v := .slice ua P.length uc) hB HusA.out) (by have := HPl.out; simp; omega) (by simpa using Hps.out))
          rw [Hpe1.out] at hp1
          have HchA := hid (Hch4.out.same hcA)
          clear hcA hB
          generalize hWA : w4.alloc (.cells #[.slice ua P.length uc] 23) = wA at *
          clear hWA
          refine hp1.out.mono ?_
          rintro e w5 ⟨u5, rfl, h1, h2, h3⟩
          have Hch5 := hid (HchA.out.same h2)
          replace Hus := hid (HusA.out.kept h2)
          have hsm := hid (same_ok w5 u5 _ P P (VRow.seen h1 (by have := HPl.out; omega)) Hus.out)
          simp only [decide_true] at hsm
          clear h1 h2 h3 hp1 HusA
          go_wp2_with fail
          refine hsm.out.mono ?_
          rintro e w6 ⟨rfl, q6, rfl⟩
          have Hch6 := hid (Hch5.out.drewN q6)
          replace Hus := hid (Hus.out.kept ((Chg.refl _ _).drewN q6))
          clear hsm
          generalize hW6 : w5.drewN q6 = w6 at *
          clear hW6
          go_wp2_with fail
          have hcB : Chg No w6 (w6.alloc (.cells #[.slice ua P.length uc, .slice ua P.length uc] 23)) := (Chg.refl _ _).alloc _
          have hB := Blk.new w6 #[.slice ua P.length uc, .slice ua P.length uc] 23
          have HusB := hid (Hus.out.kept hcB)
          have hp1 := hid (pick_ok _ _ [P, P] (seen_two hB HusB.out) (by have := HPl.out; simp; omega) (by simpa using Hps.out))
          rw [Hpe2.out] at hp1
          have HchB := hid (Hch6.out.same hcB)
          clear hcB hB
          generalize hWB : w6.alloc (.cells #[.slice ua P.length uc, .slice ua P.length uc] 23) = wB at *
          clear hWB
          refine hp1.out.mono ?_
          rintro e w7 ⟨u7, rfl, h1, h2, h3⟩
          have Hch7 := hid (HchB.out.same h2)
          replace Hus := hid (HusB.out.kept h2)
          have hsm := hid (same_ok w7 u7 _ P P (VRow.seen h1 (by have := HPl.out; omega)) Hus.out)
          simp only [decide_true] at hsm
          clear h1 h2 h3 hp1 HusB
          go_wp2_with fail
          refine hsm.out.mono ?_
          rintro e w8 ⟨rfl, q8, rfl⟩
          have Hch8 := hid (Hch7.out.drewN q8)
          clear hsm
          go_wp2_with fail
          go_ret
          exact ⟨rfl, Hch8.out⟩

theorem weightsAll_mem {H : Type} {P : Program} {e : TypeId} : ∀ {ds : List (DataW H)} {d : DataW H}, d ∈ ds → ∀ {n : Nat}, n ∈ d.weights P e → n ∈ DataW.weightsAll P e ds
  | x :: r, d, hd, n, hn => by
    simp only [DataW.weightsAll, List.mem_append]
    rcases List.mem_cons.1 hd with rfl | hd
    · exact .inl hn
    · exact .inr (weightsAll_mem hd hn)
theorem bytes_vote : Try.prog.bytesOf 47 = 32 := by kernel_rfl
theorem uVVotes : Try.prog.underlying 22 = some (.slice 23) := by kernel_rfl
theorem cells_votes : Try.prog.cellsOf 23 = 1 := by kernel_rfl

theorem votes_any {H : Type} {enc : TypeId × Value → H} {w : World} {fuel : Nat} {cs : List Value} {x : DataW H × List MemPlace} (h : DataW.trod enc Try.prog w 0 (fun _ => true) true fuel 23 cs = some x) (hw : ∀ n ∈ x.1.weights Try.prog 23, n ≤ reachBytes) :
    ∃ u l, cs = [u] ∧ VAny w u l ∧ l.length ≤ 4398046511104 ∧ ∀ y ∈ l, i64r y.slot := by
  rcases Go.Deep.open_slice uVotes h with ⟨hcs, -⟩ | ⟨a, len, cap, m, n, D, Pl, hcs, -, hl, hm, hmm, rfl, hx⟩
  · exact ⟨_, [], hcs, ⟨none, 0, rfl, fun k x hx => by simp at hx⟩, by simp, fun y hy => by cases hy⟩
  · simp only [if_true] at hmm
    subst hmm
    have hlen : len ≤ 4398046511104 := by
      have h1 := hw ((len + (m - len)) * 32) (by
        simp only [DataW.weights, uVotes, bytes_vote]
        simp)
      have h2 := reachBytes_lt
      simp at h2
      omega
    have hspot : 0 < len → a.spot = none := by
      intro hp
      obtain ⟨cs', h1, h2⟩ := hx 0 (by omega)
      rw [cells_vote] at h1
      obtain ⟨-, hlen, hcell⟩ := World.cells?_some h1
      obtain ⟨y, rfl, -, -⟩ := vote_cells h2
      have e0 := hcell 0 (by omega)
      rw [Go.Deep.add_add] at e0
      simp only [VT.cells, List.getElem?_cons_zero] at e0
      simpa [Addr.add] using World.cell?_spot e0
    have each : ∀ i, i < len → ∃ y : VT, i64r y.slot ∧ ∃ g off, a = ⟨g, off, none⟩ ∧ w.cell? ⟨g, off + i * 3, none⟩ = some (.int .i64 y.slot) ∧ w.cell? ⟨g, off + i * 3 + 1, none⟩ = some (.int .i64 y.b) ∧ w.cell? ⟨g, off + i * 3 + 2, none⟩ = some (.string y.s) := by
      intro i hi
      obtain ⟨cs', h1, h2⟩ := hx i (by omega)
      rw [cells_vote] at h1
      obtain ⟨-, hlen, hcell⟩ := World.cells?_some h1
      obtain ⟨y, rfl, hs, -⟩ := vote_cells h2
      have e0 := hcell 0 (by omega)
      have e1 := hcell 1 (by omega)
      have e2 := hcell 2 (by omega)
      rw [Go.Deep.add_add] at e0 e1 e2
      have hsp := hspot (by omega)
      obtain ⟨g, off, sp⟩ := a
      simp only at hsp
      subst hsp
      rw [add_plain'] at e0 e1 e2
      refine ⟨y, hs, g, off, rfl, ?_, ?_, ?_⟩
      · simpa [VT.cells] using e0
      · simpa [VT.cells, Nat.add_assoc] using e1
      · simpa [VT.cells, Nat.add_assoc] using e2
    haveI : Inhabited VT := ⟨⟨0, 0, ByteArray.empty⟩⟩
    obtain ⟨q, hq⟩ := Go.Deep.choose_lt each
    refine ⟨_, (List.range len).map q, hcs, ⟨some a, m, by simp, fun k y hy => ?_⟩, by simpa using hlen, fun y hy => ?_⟩
    · rw [List.getElem?_map] at hy
      cases hr : (List.range len)[k]? with
      | none => rw [hr] at hy; cases hy
      | some j =>
        rw [hr] at hy
        obtain ⟨hk, hj⟩ := List.getElem?_eq_some_iff.1 hr
        simp at hk hj hy
        subst hj; subst hy
        obtain ⟨-, g, off, rfl, hh⟩ := hq k hk
        exact ⟨g, off, rfl, hh⟩
    · obtain ⟨j, hj, rfl⟩ := List.mem_map.1 hy
      exact (hq j (List.mem_range.1 hj)).1

theorem vv_open {H : Type} {enc : TypeId × Value → H} {w : World} {v : Value} {d : DataW H} {p : List MemPlace} (h : DataW.Trod enc Try.prog w 0 (fun _ => true) true 22 v d p) (hv : ∃ a len cap, v = .slice a len cap) (hw : ∀ n ∈ d.weights Try.prog 22, n ≤ reachBytes) :
    ∃ ll, VVAny w v ll := by
  obtain ⟨a, len, cap, rfl⟩ := hv
  obtain ⟨fuel, hf⟩ := h
  rcases Go.Deep.open_slice uVVotes hf with ⟨hcs, -⟩ | ⟨x, len', cap', m, n, D, Pl, hcs, -, hl, hm, hmm, hd, hx⟩
  · simp [Value.cells] at hcs
    obtain ⟨rfl, rfl, rfl⟩ := hcs
    exact ⟨[], none, 0, rfl, by simp, (fun l hl => by cases hl), fun k x hx => by simp at hx⟩
  · simp [Value.cells] at hcs
    obtain ⟨rfl, rfl, rfl⟩ := hcs
    simp only [if_true] at hmm
    subst hmm
    simp only [Prod.mk.injEq] at hd
    obtain ⟨rfl, -⟩ := hd
    have hin : ∀ i, i < len → ∀ n ∈ (D i).weights Try.prog 23, n ≤ reachBytes := by
      intro i hi n hn
      refine hw n ?_
      simp only [DataW.weights, uVVotes]
      refine List.mem_cons_of_mem _ (List.mem_append_left _ (weightsAll_mem (d := D i) ?_ hn))
      exact List.mem_map.2 ⟨i, List.mem_range.2 hi, rfl⟩
    have hspot : 0 < len → x.spot = none := by
      intro hp
      obtain ⟨cs', h1, h2⟩ := hx 0 (by omega)
      rw [cells_votes] at h1
      obtain ⟨-, hlen, hcell⟩ := World.cells?_some h1
      obtain ⟨u, l, rfl, -⟩ := votes_any h2 (hin 0 hp)
      have e0 := hcell 0 (by omega)
      rw [Go.Deep.add_add] at e0
      simpa [Addr.add] using World.cell?_spot e0
    have each : ∀ i, i < len → ∃ l : List VT, (l.length ≤ 4398046511104 ∧ ∀ y ∈ l, i64r y.slot) ∧ ∃ g off u, x = ⟨g, off, none⟩ ∧ w.cell? ⟨g, off + i, none⟩ = some u ∧ VAny w u l := by
      intro i hi
      obtain ⟨cs', h1, h2⟩ := hx i (by omega)
      rw [cells_votes] at h1
      obtain ⟨-, hlen, hcell⟩ := World.cells?_some h1
      obtain ⟨u, l, rfl, hA, hL, hS⟩ := votes_any h2 (hin i hi)
      have e0 := hcell 0 (by omega)
      rw [Go.Deep.add_add] at e0
      have hsp := hspot (by omega)
      obtain ⟨g, off, sp⟩ := x
      simp only at hsp
      subst hsp
      rw [add_plain'] at e0
      exact ⟨l, ⟨hL, hS⟩, g, off, u, rfl, by simpa using e0, hA⟩
    obtain ⟨q, hq⟩ := Go.Deep.choose_lt each
    refine ⟨(List.range len).map q, some x, m, by simp, by simp; unfold maxLen at hm; omega, fun l hl => ?_, fun k y hy => ?_⟩
    · obtain ⟨j, hj, rfl⟩ := List.mem_map.1 hl
      exact (hq j (List.mem_range.1 hj)).1
    · rw [List.getElem?_map] at hy
      cases hr : (List.range len)[k]? with
      | none => rw [hr] at hy; cases hy
      | some j =>
        rw [hr] at hy
        obtain ⟨hk, hj⟩ := List.getElem?_eq_some_iff.1 hr
        simp at hk hj hy
        subst hj; subst hy
        obtain ⟨-, g, off, u, rfl, hh⟩ := hq k hk
        exact ⟨g, off, u, rfl, hh⟩

namespace BallotPicks
theorem own : ownKnob Try.prog.godebug = none := by kernel_rfl
theorem laidOut : laidOutB Try.prog = true := by kernel_rfl

set_option maxRecDepth 100000 in
theorem lifted (os : Os) (started : os.Started) (H : Type) (enc : TypeId × Value → H) :
    ReturnsInHanded {} Try.checked os 3 .any (Rows.ballotPicksSpec.pre6 enc Try.prog Try.f3 Rows.ballotPicksRow.domain false) (Rows.ballotPicksSpec.post enc Try.prog Try.f3 false true false false) := by
  refine returnsInHanded_of_change_sized (C := Try.checked) own started (by kernel_rfl) Try.func3
    (ChangeSpec.witness6 (enc := enc) (C := Try.checked) false ⟨#[], #[.slice none 0 0], []⟩ 8 (by kernel_rfl) (by kernel_rfl) (by kernel_rfl) (by kernel_rfl)) ?_
  intro W base args ds gs before hval0 hW hcnd hsz _
  have hval : ∀ (j : Nat) t v, Try.f3.params[j]? = some t → args[j]? = some v → Value.okWide Try.prog W .any base t v := hval0
  have hW' := hW
  obtain ⟨p, q, hA0, hV, rfl, hfz, hnd⟩ := hW
  have hA : DataW.TrodAll enc Try.prog W 0 (fun _ => true) true Try.f3.params.toList args.toList ds p := hA0
  have hsz2 : (DataW.weightsEach Try.prog (Try.f3.params.toList ++ Rows.ballotPicksSpec.plain.varTypes Try.prog) (ds ++ gs)).all (· ≤ reachBytes) = true := hsz
  rw [Try.params3] at hA hval hsz2
  obtain ⟨v0, vs0, d0, ds0, p0, q0, hargs, rfl, rfl, h0, r0⟩ := trodAll_cons hA
  obtain ⟨rfl, rfl, rfl⟩ := trodAll_nil r0
  obtain rfl : args = #[v0] := by cases args; simp_all
  obtain ⟨rfl, rfl⟩ := trodVars_none hV
  have hsl := okWide_slice Try.underlying22 (hval 0 22 v0 rfl rfl)
  have k0 := h0
  have lt0 : ∀ x ∈ p0, x.block < W.heap.size := by obtain ⟨m, hm⟩ := k0; exact DataW.trod_lt m _ _ _ hm
  obtain ⟨ll, hl⟩ := vv_open h0 hsl (fun n hn => by
    have := List.all_eq_true.1 hsz2 n (DataW.weights_mem_each (j := 0) (t := 22) (d := d0) rfl rfl n hn)
    simpa using this)
  clear hA0 hval0
  refine (picks_ok W _ ll hl).mono fun e W' ⟨he, hch⟩ => ?_
  have bel := hch.no
  subst he
  exact ⟨_, rfl, _, _, _, [], _, [], hW', trodAll_mk1 (shut_bool Try.underlying4 _), (trodAll_cons_mk (Below.trod laidOut (by kernel_rfl) (of_decide_eq_true (by kernel_rfl)) k0 bel lt0) trodAll_mk0), rfl, bel.frame _, fun h => by cases h⟩

theorem over : Rows.ballotPicksRow.holds Try.pinned (OpenSpec.ofChange Rows.ballotPicksSpec) :=
  OpenClaim.holds_of_wide 3 Try.f3 rfl rfl rfl rfl rfl rfl rfl ⟨rfl, rfl, rfl, rfl, rfl⟩ rfl rfl rfl rfl rfl (by kernel_rfl) Try.func3 (by kernel_rfl)
    (of_decide_eq_true (by kernel_rfl)) (by unfold Func.isWrapper; first | (rw [if_pos (by decide +kernel)]; kernel_rfl) | (rw [if_neg (by decide +kernel)]; exact ⟨rfl, rfl⟩))
    (fun os started H enc _ => lifted os started H enc)
theorem proved : Rows.BallotPicksSaid := over
end BallotPicks
end Go.Proofs.Ytfmcfcjcmmlmfaa
