/- BallotAgrees: for every input the law returns true, and each argument reads as before. No condition. -/
import Derived.Test.YtfmcfcjcmmlmfaaRows
import Derived.Test.YtfmcfcjcmmlmfaaAgreeW
import Derived.Test.YtfmcfcjcmmlmfaaArgW
import Derived.ProofKit
import Derived.OpenShut
import Derived.ShutString
import Derived.ChangeOld
import Derived.Below
namespace Go.Proofs.Ytfmcfcjcmmlmfaa
open Go Go.RowKit Go.Maps Go.ChangeShapes Go.WideShapes Go.ChangeAt
set_option linter.unusedVariables false

theorem cells_u8 : Try.prog.cellsOf 5 = 1 := by kernel_rfl
theorem u8_of_wf {n : Int} (h : (Lit.int .u8 n).wf = true) : u8r n := by
  have h1 : IntKind.u8.min = 0 := by decide
  have h2 : IntKind.u8.max = 255 := by decide
  simp only [Lit.wf, h1, h2, Bool.and_eq_true, decide_eq_true_eq] at h
  exact h
structure StepA where
  k : Int
  a : Int
  b : Int
  s : Int
  keep : Int
def StepA.cells (x : StepA) : List Value := [.int .u8 x.k, .int .u8 x.a, .int .u8 x.b, .int .u8 x.s, .int .i64 x.keep]
def StepA.Wf (x : StepA) : Prop := u8r x.k ∧ u8r x.a ∧ u8r x.b ∧ u8r x.s ∧ i64r x.keep
def StepASeen (w : World) (v : Value) (l : List StepA) : Prop :=
  ∃ a c, v = .slice a l.length c ∧ l.length ≤ 9223372036854775807 ∧ ∀ k x, l[k]? = some x → x.Wf ∧ ∃ g off, a = some ⟨g, off, none⟩ ∧ w.cell? ⟨g, off + k * 5, none⟩ = some (.int .u8 x.k) ∧ w.cell? ⟨g, off + k * 5 + 1, none⟩ = some (.int .u8 x.a) ∧ w.cell? ⟨g, off + k * 5 + 2, none⟩ = some (.int .u8 x.b) ∧ w.cell? ⟨g, off + k * 5 + 3, none⟩ = some (.int .u8 x.s) ∧ w.cell? ⟨g, off + k * 5 + 4, none⟩ = some (.int .i64 x.keep)
theorem uStepAs : Try.prog.underlying 56 = some (.slice 69) := by kernel_rfl
theorem cells_StepA : Try.prog.cellsOf 69 = 5 := by kernel_rfl
theorem structStepA : ∃ fs, Try.prog.underlying 69 = some (.struct fs) ∧ fs.toList.map (fun f => (f.type, f.offset)) = [(5, 0), (5, 1), (5, 2), (5, 3), (3, 4)] :=
  ⟨_, Try.underlying69, by kernel_rfl⟩
theorem StepA_cells {H : Type} {enc : TypeId × Value → H} {w : World} {base : Nat} {spare : Nat → Bool} {held : Bool} {fuel : Nat} {cs : List Value} {x : DataW H × List MemPlace} (h : DataW.trod enc Try.prog w base spare held fuel 69 cs = some x) :
    ∃ y : StepA, cs = y.cells ∧ y.Wf := by
  obtain ⟨fs, hs, hf⟩ := structStepA
  obtain ⟨xs, k, rfl, -, hlen, hxs, hx⟩ := DataW.trod_struct hs h
  rw [cells_StepA] at hlen
  obtain ⟨f0, g0, t0, o0⟩ := field_at hf (i := 0) rfl
  obtain ⟨f1, g1, t1, o1⟩ := field_at hf (i := 1) rfl
  obtain ⟨f2, g2, t2, o2⟩ := field_at hf (i := 2) rfl
  obtain ⟨f3, g3, t3, o3⟩ := field_at hf (i := 3) rfl
  obtain ⟨f4, g4, t4, o4⟩ := field_at hf (i := 4) rfl
  clear hs h
  obtain ⟨v0, v1, v2, v3, v4, rfl⟩ : ∃ v0 v1 v2 v3 v4, cs = [v0, v1, v2, v3, v4] := by
    rcases cs with _ | ⟨v0, _ | ⟨v1, _ | ⟨v2, _ | ⟨v3, _ | ⟨v4, _ | ⟨v5, r⟩⟩⟩⟩⟩⟩ <;> simp at hlen
    exact ⟨_, _, _, _, _, rfl⟩
  have e0 := hx 0 f0 g0
  have e1 := hx 1 f1 g1
  have e2 := hx 2 f2 g2
  have e3 := hx 3 f3 g3
  have e4 := hx 4 f4 g4
  rw [t0, o0, cells_u8] at e0
  rw [t1, o1, cells_u8] at e1
  rw [t2, o2, cells_u8] at e2
  rw [t3, o3, cells_u8] at e3
  rw [t4, o4, cells_int] at e4
  have hxl : xs.length = 5 := by
    have := congrArg List.length hf
    simp at this
    omega
  obtain ⟨x0, q0⟩ : ∃ y, xs[0]? = some y := ⟨_, List.getElem?_eq_getElem (by omega)⟩
  obtain ⟨x1, q1⟩ : ∃ y, xs[1]? = some y := ⟨_, List.getElem?_eq_getElem (by omega)⟩
  obtain ⟨x2, q2⟩ : ∃ y, xs[2]? = some y := ⟨_, List.getElem?_eq_getElem (by omega)⟩
  obtain ⟨x3, q3⟩ : ∃ y, xs[3]? = some y := ⟨_, List.getElem?_eq_getElem (by omega)⟩
  obtain ⟨x4, q4⟩ : ∃ y, xs[4]? = some y := ⟨_, List.getElem?_eq_getElem (by omega)⟩
  rw [q0] at e0
  rw [q1] at e1
  rw [q2] at e2
  rw [q3] at e3
  rw [q4] at e4
  obtain ⟨n0, r0, -, w0⟩ := DataW.trod_int uU8 e0
  obtain ⟨n1, r1, -, w1⟩ := DataW.trod_int uU8 e1
  obtain ⟨n2, r2, -, w2⟩ := DataW.trod_int uU8 e2
  obtain ⟨n3, r3, -, w3⟩ := DataW.trod_int uU8 e3
  obtain ⟨n4, r4, -, w4⟩ := DataW.trod_int uInt e4
  simp at r0 r1 r2 r3 r4
  subst r0; subst r1; subst r2; subst r3; subst r4
  exact ⟨⟨n0, n1, n2, n3, n4⟩, rfl, u8_of_wf w0, u8_of_wf w1, u8_of_wf w2, u8_of_wf w3, i64_of_wf w4⟩

theorem StepA_open {H : Type} {enc : TypeId × Value → H} {w : World} {a : Option Addr} {len cap : Nat} {d : DataW H} {p : List MemPlace} (h : DataW.Trod enc Try.prog w 0 (fun _ => true) true 56 (.slice a len cap) d p) :
    ∃ l, StepASeen w (.slice a len cap) l := by
  obtain ⟨fuel, hf⟩ := h
  rcases Go.Deep.open_slice uStepAs hf with ⟨hcs, -⟩ | ⟨x, len', cap', m, n, D, Pl, hcs, -, hl, hm, hmm, -, hx⟩
  · simp [Value.cells] at hcs
    obtain ⟨rfl, rfl, rfl⟩ := hcs
    exact ⟨[], none, 0, rfl, by simp, fun k x hx => by simp at hx⟩
  · simp [Value.cells] at hcs
    obtain ⟨rfl, rfl, rfl⟩ := hcs
    simp only [if_true] at hmm
    subst hmm
    have hspot : 0 < len → x.spot = none := by
      intro hp
      obtain ⟨cs', h1, h2⟩ := hx 0 (by omega)
      rw [cells_StepA] at h1
      obtain ⟨-, hlen, hcell⟩ := World.cells?_some h1
      obtain ⟨y, rfl, -⟩ := StepA_cells h2
      have e0 := hcell 0 (by omega)
      rw [Go.Deep.add_add] at e0
      simpa [Addr.add] using World.cell?_spot e0
    have each : ∀ i, i < len → ∃ y : StepA, y.Wf ∧ ∃ g off, x = ⟨g, off, none⟩ ∧ w.cell? ⟨g, off + i * 5, none⟩ = some (.int .u8 y.k) ∧ w.cell? ⟨g, off + i * 5 + 1, none⟩ = some (.int .u8 y.a) ∧ w.cell? ⟨g, off + i * 5 + 2, none⟩ = some (.int .u8 y.b) ∧ w.cell? ⟨g, off + i * 5 + 3, none⟩ = some (.int .u8 y.s) ∧ w.cell? ⟨g, off + i * 5 + 4, none⟩ = some (.int .i64 y.keep) := by
      intro i hi
      obtain ⟨cs', h1, h2⟩ := hx i (by omega)
      rw [cells_StepA] at h1
      obtain ⟨-, hlen, hcell⟩ := World.cells?_some h1
      obtain ⟨y, rfl, hs⟩ := StepA_cells h2
      have e0 := hcell 0 (by omega)
      have e1 := hcell 1 (by omega)
      have e2 := hcell 2 (by omega)
      have e3 := hcell 3 (by omega)
      have e4 := hcell 4 (by omega)
      rw [Go.Deep.add_add] at e0 e1 e2 e3 e4
      have hsp := hspot (by omega)
      obtain ⟨g, off, sp⟩ := x
      simp only at hsp
      subst hsp
      rw [add_plain'] at e0 e1 e2 e3 e4
      refine ⟨y, hs, g, off, rfl, ?_, ?_, ?_, ?_, ?_⟩
      · simpa [StepA.cells] using e0
      · simpa [StepA.cells, Nat.add_assoc] using e1
      · simpa [StepA.cells, Nat.add_assoc] using e2
      · simpa [StepA.cells, Nat.add_assoc] using e3
      · simpa [StepA.cells, Nat.add_assoc] using e4
    haveI : Inhabited StepA := ⟨⟨0, 0, 0, 0, 0⟩⟩
    obtain ⟨q, hq⟩ := Go.Deep.choose_lt each
    refine ⟨(List.range len).map q, some x, m, by simp, by simp; unfold maxLen at hm; omega, fun k y hy => ?_⟩
    rw [List.getElem?_map] at hy
    cases hr : (List.range len)[k]? with
    | none => rw [hr] at hy; cases hy
    | some j =>
      rw [hr] at hy
      obtain ⟨hk, hj⟩ := List.getElem?_eq_some_iff.1 hr
      simp at hk hj hy
      subst hj; subst hy
      obtain ⟨h1, g, off, rfl, hh⟩ := hq k hk
      exact ⟨h1, g, off, rfl, hh⟩
theorem StepASeen.kept {w w' : World} {v : Value} {l : List StepA} (h : StepASeen w v l) (c : Chg No w w') : StepASeen w' v l := by
  obtain ⟨a, cp, rfl, hl, hc⟩ := h
  refine ⟨a, cp, rfl, hl, fun k x hx => ?_⟩
  obtain ⟨h1, g, off, ha, z0, z1, z2, z3, z4⟩ := hc k x hx
  exact ⟨h1, g, off, ha, c.cellN z0, c.cellN z1, c.cellN z2, c.cellN z3, c.cellN z4⟩

theorem StepASeen.steps {w : World} {v : Value} {l : List StepA} (h : StepASeen w v l) : StepsSeen w v (l.map fun x => ⟨x.k, x.a, x.b, x.s, x.keep⟩) := by
  obtain ⟨a, c, rfl, hl, hc⟩ := h
  refine ⟨a, c, by rw [List.length_map], by rw [List.length_map]; exact hl, fun i x hx => ?_⟩
  rw [List.getElem?_map] at hx
  cases hg : l[i]? with
  | none => rw [hg] at hx; cases hx
  | some y =>
    rw [hg] at hx
    simp only [Option.map_some, Option.some.injEq] at hx
    subst hx
    obtain ⟨⟨h1, h2, h3, h4, -⟩, g, off, ha, hh⟩ := hc i y hg
    exact ⟨⟨h1, h2, h3, h4⟩, g, off, ha, hh⟩

namespace BallotAgrees
theorem own : ownKnob Try.prog.godebug = none := by kernel_rfl
theorem laidOut : laidOutB Try.prog = true := by kernel_rfl

set_option maxRecDepth 100000 in
theorem lifted (os : Os) (started : os.Started) (H : Type) (enc : TypeId × Value → H) :
    ReturnsInHanded {} Try.checked os 6 .any (Rows.ballotAgreesSpec.pre6 enc Try.prog Try.f6 Rows.ballotAgreesRow.domain false) (Rows.ballotAgreesSpec.post enc Try.prog Try.f6 false true false false) := by
  refine returnsInHanded_of_change (C := Try.checked) own started (by kernel_rfl) Try.func6
    (ChangeSpec.witness6 (enc := enc) (C := Try.checked) false ⟨#[], #[.int .u8 0, .slice none 0 0], []⟩ 8 (by kernel_rfl) (by kernel_rfl) (by kernel_rfl) (by kernel_rfl)) ?_
  intro W base args ds gs before hval0 hW hcnd _
  have hval : ∀ (j : Nat) t v, Try.f6.params[j]? = some t → args[j]? = some v → Value.okWide Try.prog W .any base t v := hval0
  have hW' := hW
  obtain ⟨p, q, hA0, hV, rfl, hfz, hnd⟩ := hW
  have hA : DataW.TrodAll enc Try.prog W 0 (fun _ => true) true Try.f6.params.toList args.toList ds p := hA0
  rw [Try.params6] at hA hval
  obtain ⟨v0, vs0, d0, ds0, p0, q0, hargs, rfl, rfl, h0, r0⟩ := trodAll_cons hA
  obtain ⟨v1, vs1, d1, ds1, p1, q1, rfl, rfl, rfl, h1, r1⟩ := trodAll_cons r0
  obtain ⟨rfl, rfl, rfl⟩ := trodAll_nil r1
  obtain rfl : args = #[v0, v1] := by cases args; simp_all
  obtain ⟨rfl, rfl⟩ := trodVars_none hV
  have ho0 := hval 0 5 v0 rfl rfl
  obtain ⟨n0, rfl⟩ := okWide_int Try.underlying5 ho0
  obtain ⟨a1, len1, cap1, rfl⟩ := okWide_slice Try.underlying56 (hval 1 56 v1 rfl rfl)
  have k0 := h0
  have k1 := h1
  have lt0 : ∀ x ∈ p0, x.block < W.heap.size := by obtain ⟨m, hm⟩ := k0; exact DataW.trod_lt m _ _ _ hm
  have lt1 : ∀ x ∈ p1, x.block < W.heap.size := by obtain ⟨m, hm⟩ := k1; exact DataW.trod_lt m _ _ _ hm
  obtain ⟨la, hla⟩ := StepA_open h1
  have hz : 0 ≤ n0 ∧ n0 ≤ 255 := by
    obtain ⟨m, hm⟩ := h0
    obtain ⟨n, hn, -, hw⟩ := DataW.trod_int uU8 hm
    simp [Value.cells] at hn
    subst hn
    exact u8_of_wf hw
  clear hA0 hval0
  refine (agrees_ok W n0 hz _ _ hla.steps).mono fun e W' ⟨he, hch⟩ => ?_
  have bel := hch.no
  subst he
  exact ⟨_, rfl, _, _, _, [], _, [], hW', trodAll_mk1 (shut_bool Try.underlying4 _),
    (trodAll_cons_mk (Below.trod laidOut (by kernel_rfl) (of_decide_eq_true (by kernel_rfl)) k0 bel lt0) (trodAll_cons_mk (Below.trod laidOut (by kernel_rfl) (of_decide_eq_true (by kernel_rfl)) k1 bel lt1) trodAll_mk0)), rfl, bel.frame _, fun h => by cases h⟩

theorem over : Rows.ballotAgreesRow.holds Try.pinned (OpenSpec.ofChange Rows.ballotAgreesSpec) :=
  OpenClaim.holds_of_wide 6 Try.f6 rfl rfl rfl rfl rfl rfl rfl ⟨rfl, rfl, rfl, rfl, rfl⟩ rfl rfl rfl rfl rfl (by kernel_rfl) Try.func6 (by kernel_rfl)
    (of_decide_eq_true (by kernel_rfl)) (by unfold Func.isWrapper; first | (rw [if_pos (by decide +kernel)]; kernel_rfl) | (rw [if_neg (by decide +kernel)]; exact ⟨rfl, rfl⟩))
    (fun os started H enc _ => lifted os started H enc)
theorem proved : Rows.BallotAgreesSaid := over
end BallotAgrees
end Go.Proofs.Ytfmcfcjcmmlmfaa
