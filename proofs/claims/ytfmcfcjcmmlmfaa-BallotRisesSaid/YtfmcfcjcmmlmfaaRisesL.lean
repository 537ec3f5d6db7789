/- BallotRises: the argument opened, the statement. -/
import Derived.Test.YtfmcfcjcmmlmfaaRows
import Derived.Test.YtfmcfcjcmmlmfaaRisesW
import Derived.Test.YtfmcfcjcmmlmfaaArgW
import Derived.ProofKit
import Derived.OpenShut
import Derived.ShutString
import Derived.ChangeOld
import Derived.Below
namespace Go.Proofs.Ytfmcfcjcmmlmfaa
open Go Go.RowKit Go.Maps Go.ChangeShapes Go.WideShapes Go.ChangeAt
set_option linter.unusedVariables false

theorem uActs : Try.prog.underlying 29 = some (.slice 39) := by kernel_rfl

theorem acts_open {H : Type} {enc : TypeId × Value → H} {w : World} {a : Option Addr} {len cap : Nat} {d : DataW H} {p : List MemPlace} (h : DataW.Trod enc Try.prog w 0 (fun _ => true) true 29 (.slice a len cap) d p) :
    ∃ l, ActsSeen w (.slice a len cap) l := by
  obtain ⟨fuel, hf⟩ := h
  rcases Go.Deep.open_slice uActs hf with ⟨hcs, -⟩ | ⟨x, len', cap', m, n, D, Pl, hcs, -, hl, hm, hmm, -, hx⟩
  · simp [Value.cells] at hcs
    obtain ⟨rfl, rfl, rfl⟩ := hcs
    exact ⟨[], none, 0, rfl, by simp, fun k x hx => by simp at hx⟩
  · simp [Value.cells] at hcs
    obtain ⟨rfl, rfl, rfl⟩ := hcs
    simp only [if_true] at hmm
    subst hmm
    have hspot : 0 < len → x.spot = none := by
      intro hp
      obtain ⟨cs', h1, h2⟩ := hx 0 (by omega)
      rw [cells_act] at h1
      obtain ⟨-, hlen, hcell⟩ := World.cells?_some h1
      obtain ⟨k, n, s, b, v, ka, kn, kc, rfl, -, -⟩ := act_cells h2
      have e0 := hcell 0 (by omega)
      rw [Go.Deep.add_add] at e0
      simpa [Addr.add] using World.cell?_spot e0
    have each : ∀ i, i < len → ∃ y : ActT, i64r y.slot ∧ y.kn ≤ y.kc ∧ ∃ g off, x = ⟨g, off, none⟩ ∧ w.cell? ⟨g, off + i * 6, none⟩ = some (.int .i64 y.k) ∧ w.cell? ⟨g, off + i * 6 + 1, none⟩ = some (.int .i64 y.n) ∧ w.cell? ⟨g, off + i * 6 + 2, none⟩ = some (.int .i64 y.slot)
        ∧ w.cell? ⟨g, off + i * 6 + 3, none⟩ = some (.int .i64 y.b) ∧ w.cell? ⟨g, off + i * 6 + 4, none⟩ = some (.string y.s) ∧ w.cell? ⟨g, off + i * 6 + 5, none⟩ = some (.slice y.ka y.kn y.kc) := by
      intro i hi
      obtain ⟨cs', h1, h2⟩ := hx i (by omega)
      rw [cells_act] at h1
      obtain ⟨-, hlen, hcell⟩ := World.cells?_some h1
      obtain ⟨k, n, s, b, v, ka, kn, kc, rfl, hs, hkn⟩ := act_cells h2
      have e0 := hcell 0 (by omega)
      have e1 := hcell 1 (by omega)
      have e2 := hcell 2 (by omega)
      have e3 := hcell 3 (by omega)
      have e4 := hcell 4 (by omega)
      have e5 := hcell 5 (by omega)
      rw [Go.Deep.add_add] at e0 e1 e2 e3 e4 e5
      have hsp := hspot (by omega)
      obtain ⟨g, off, sp⟩ := x
      simp only at hsp
      subst hsp
      rw [add_plain'] at e0 e1 e2 e3 e4 e5
      refine ⟨⟨k, n, s, b, v, ka, kn, kc⟩, hs, hkn, g, off, rfl, ?_, ?_, ?_, ?_, ?_, ?_⟩
      · simpa using e0
      · simpa [Nat.add_assoc] using e1
      · simpa [Nat.add_assoc] using e2
      · simpa [Nat.add_assoc] using e3
      · simpa [Nat.add_assoc] using e4
      · simpa [Nat.add_assoc] using e5
    haveI : Inhabited ActT := ⟨⟨0, 0, 0, 0, ByteArray.empty, none, 0, 0⟩⟩
    obtain ⟨q, hq⟩ := Go.Deep.choose_lt each
    refine ⟨(List.range len).map q, some x, m, by simp, by simp; unfold maxLen at hm; omega, fun k y hy => ?_⟩
    rw [List.getElem?_map] at hy
    cases hr : (List.range len)[k]? with
    | none => rw [hr] at hy; cases hy
    | some j =>
      rw [hr] at hy
      obtain ⟨hk, hj⟩ := List.getElem?_eq_some_iff.1 hr
      simp at hk hj hy
      subst hj; subst hy
      obtain ⟨h1, h2, g, off, rfl, hh⟩ := hq k hk
      exact ⟨h1, h2, g, off, rfl, hh⟩

namespace BallotRises
theorem own : ownKnob Try.prog.godebug = none := by kernel_rfl
theorem laidOut : laidOutB Try.prog = true := by kernel_rfl

set_option maxRecDepth 100000 in
theorem lifted (os : Os) (started : os.Started) (H : Type) (enc : TypeId × Value → H) :
    ReturnsInHanded {} Try.checked os 4 .any (Rows.ballotRisesSpec.pre6 enc Try.prog Try.f4 Rows.ballotRisesRow.domain false) (Rows.ballotRisesSpec.post enc Try.prog Try.f4 false true false false) := by
  refine returnsInHanded_of_change (C := Try.checked) own started (by kernel_rfl) Try.func4
    (ChangeSpec.witness6 (enc := enc) (C := Try.checked) false ⟨#[], #[.slice none 0 0], []⟩ 8 (by kernel_rfl) (by kernel_rfl) (by kernel_rfl) (by kernel_rfl)) ?_
  intro W base args ds gs before hval0 hW hcnd _
  have hval : ∀ (j : Nat) t v, Try.f4.params[j]? = some t → args[j]? = some v → Value.okWide Try.prog W .any base t v := hval0
  have hW' := hW
  obtain ⟨p, q, hA0, hV, rfl, hfz, hnd⟩ := hW
  have hA : DataW.TrodAll enc Try.prog W 0 (fun _ => true) true Try.f4.params.toList args.toList ds p := hA0
  rw [Try.params4] at hA hval
  obtain ⟨v0, vs0, d0, ds0, p0, q0, hargs, rfl, rfl, h0, r0⟩ := trodAll_cons hA
  obtain ⟨rfl, rfl, rfl⟩ := trodAll_nil r0
  obtain rfl : args = #[v0] := by cases args; simp_all
  obtain ⟨rfl, rfl⟩ := trodVars_none hV
  obtain ⟨a0, len0, cap0, rfl⟩ := okWide_slice Try.underlying29 (hval 0 29 v0 rfl rfl)
  have k0 := h0
  have lt0 : ∀ x ∈ p0, x.block < W.heap.size := by obtain ⟨m, hm⟩ := k0; exact DataW.trod_lt m _ _ _ hm
  obtain ⟨l, hl⟩ := acts_open h0
  clear hA0 hval0
  refine (rises_ok W _ l hl).mono fun e W' ⟨he, hch⟩ => ?_
  have bel := hch.no
  subst he
  exact ⟨_, rfl, _, _, _, [], _, [], hW', trodAll_mk1 (shut_bool Try.underlying4 _), (trodAll_cons_mk (Below.trod laidOut (by kernel_rfl) (of_decide_eq_true (by kernel_rfl)) k0 bel lt0) trodAll_mk0), rfl, bel.frame _, fun h => by cases h⟩

theorem over : Rows.ballotRisesRow.holds Try.pinned (OpenSpec.ofChange Rows.ballotRisesSpec) :=
  OpenClaim.holds_of_wide 4 Try.f4 rfl rfl rfl rfl rfl rfl rfl ⟨rfl, rfl, rfl, rfl, rfl⟩ rfl rfl rfl rfl rfl (by kernel_rfl) Try.func4 (by kernel_rfl)
    (of_decide_eq_true (by kernel_rfl)) (by unfold Func.isWrapper; first | (rw [if_pos (by decide +kernel)]; kernel_rfl) | (rw [if_neg (by decide +kernel)]; exact ⟨rfl, rfl⟩))
    (fun os started H enc _ => lifted os started H enc)
theorem proved : Rows.BallotRisesSaid := over
end BallotRises
end Go.Proofs.Ytfmcfcjcmmlmfaa
