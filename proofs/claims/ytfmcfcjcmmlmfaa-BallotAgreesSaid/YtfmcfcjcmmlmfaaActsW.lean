/- The laws' acts: the argument opened. -/
import Derived.Test.YtfmcfcjcmmlmfaaArgW
import Derived.Test.YtfmcfcjcmmlmfaaFewW
import Derived.ProofKit
import Derived.OpenShut
import Derived.ShutString
import Derived.ChangeOld
import Derived.Below
namespace Go.Proofs.Ytfmcfcjcmmlmfaa
open Go Go.RowKit Go.Maps Go.ChangeShapes Go.WideShapes Go.ChangeAt
set_option linter.unusedVariables false

/-- an act, as the law's argument holds it -/
structure ActT where
  k : Int
  n : Int
  slot : Int
  b : Int
  s : ByteArray
  ka : Option Addr
  kn : Nat
  kc : Nat
def ActsSeen (w : World) (v : Value) (l : List ActT) : Prop :=
  ∃ a c, v = .slice a l.length c ∧ l.length ≤ 9223372036854775807 ∧ ∀ k x, l[k]? = some x → i64r x.slot ∧ x.kn ≤ x.kc ∧ ∃ g off, a = some ⟨g, off, none⟩ ∧ w.cell? ⟨g, off + k * 6, none⟩ = some (.int .i64 x.k) ∧ w.cell? ⟨g, off + k * 6 + 1, none⟩ = some (.int .i64 x.n) ∧ w.cell? ⟨g, off + k * 6 + 2, none⟩ = some (.int .i64 x.slot)
    ∧ w.cell? ⟨g, off + k * 6 + 3, none⟩ = some (.int .i64 x.b) ∧ w.cell? ⟨g, off + k * 6 + 4, none⟩ = some (.string x.s) ∧ w.cell? ⟨g, off + k * 6 + 5, none⟩ = some (.slice x.ka x.kn x.kc)

theorem uActs : Try.prog.underlying 29 = some (.slice 39) := by kernel_rfl

theorem acts_open {H : Type} {enc : TypeId × Value → H} {w : World} {a : Option Addr} {len cap : Nat} {d : DataW H} {p : List MemPlace} (h : DataW.Trod enc Try.prog w 0 (fun _ => true) true 29 (.slice a len cap) d p) :
    ∃ l, ActsSeen w (.slice a len cap) l := by
  obtain ⟨fuel, hf⟩ := h
  rcases Go.Deep.open_slice uActs hf with ⟨hcs, -⟩ | ⟨x, len', cap', m, n, D, Pl, hcs, -, hl, hm, hmm, -, hx⟩
  · simp [Value.cells] at hcs
    obtain ⟨rfl, rfl, rfl⟩ := hcs
    exact ⟨[], none, 0, rfl, by simp, fun k x hx => by simp at hx⟩
  · simp [Value.cells] at hcs
    obtain ⟨rfl, rfl, rfl⟩ := hcs
    simp only [if_true] at hmm
    subst hmm
    have hspot : 0 < len → x.spot = none := by
      intro hp
      obtain ⟨cs', h1, h2⟩ := hx 0 (by omega)
      rw [cells_act] at h1
      obtain ⟨-, hlen, hcell⟩ := World.cells?_some h1
      obtain ⟨k, n, s, b, v, ka, kn, kc, rfl, -, -⟩ := act_cells h2
      have e0 := hcell 0 (by omega)
      rw [Go.Deep.add_add] at e0
      simpa [Addr.add] using World.cell?_spot e0
    have each : ∀ i, i < len → ∃ y : ActT, i64r y.slot ∧ y.kn ≤ y.kc ∧ ∃ g off, x = ⟨g, off, none⟩ ∧ w.cell? ⟨g, off + i * 6, none⟩ = some (.int .i64 y.k) ∧ w.cell? ⟨g, off + i * 6 + 1, none⟩ = some (.int .i64 y.n) ∧ w.cell? ⟨g, off + i * 6 + 2, none⟩ = some (.int .i64 y.slot)
        ∧ w.cell? ⟨g, off + i * 6 + 3, none⟩ = some (.int .i64 y.b) ∧ w.cell? ⟨g, off + i * 6 + 4, none⟩ = some (.string y.s) ∧ w.cell? ⟨g, off + i * 6 + 5, none⟩ = some (.slice y.ka y.kn y.kc) := by
      intro i hi
      obtain ⟨cs', h1, h2⟩ := hx i (by omega)
      rw [cells_act] at h1
      obtain ⟨-, hlen, hcell⟩ := World.cells?_some h1
      obtain ⟨k, n, s, b, v, ka, kn, kc, rfl, hs, hkn⟩ := act_cells h2
      have e0 := hcell 0 (by omega)
      have e1 := hcell 1 (by omega)
      have e2 := hcell 2 (by omega)
      have e3 := hcell 3 (by omega)
      have e4 := hcell 4 (by omega)
      have e5 := hcell 5 (by omega)
      rw [Go.Deep.add_add] at e0 e1 e2 e3 e4 e5
      have hsp := hspot (by omega)
      obtain ⟨g, off, sp⟩ := x
      simp only at hsp
      subst hsp
      rw [add_plain'] at e0 e1 e2 e3 e4 e5
      refine ⟨⟨k, n, s, b, v, ka, kn, kc⟩, hs, hkn, g, off, rfl, ?_, ?_, ?_, ?_, ?_, ?_⟩
      · simpa using e0
      · simpa [Nat.add_assoc] using e1
      · simpa [Nat.add_assoc] using e2
      · simpa [Nat.add_assoc] using e3
      · simpa [Nat.add_assoc] using e4
      · simpa [Nat.add_assoc] using e5
    haveI : Inhabited ActT := ⟨⟨0, 0, 0, 0, ByteArray.empty, none, 0, 0⟩⟩
    obtain ⟨q, hq⟩ := Go.Deep.choose_lt each
    refine ⟨(List.range len).map q, some x, m, by simp, by simp; unfold maxLen at hm; omega, fun k y hy => ?_⟩
    rw [List.getElem?_map] at hy
    cases hr : (List.range len)[k]? with
    | none => rw [hr] at hy; cases hy
    | some j =>
      rw [hr] at hy
      obtain ⟨hk, hj⟩ := List.getElem?_eq_some_iff.1 hr
      simp at hk hj hy
      subst hj; subst hy
      obtain ⟨h1, h2, g, off, rfl, hh⟩ := hq k hk
      exact ⟨h1, h2, g, off, rfl, hh⟩


theorem ActsSeen.kept {w w' : World} {v : Value} {l : List ActT} (h : ActsSeen w v l) (c : Chg No w w') : ActsSeen w' v l := by
  obtain ⟨a, cp, rfl, hl, hc⟩ := h
  refine ⟨a, cp, rfl, hl, fun k x hx => ?_⟩
  obtain ⟨h1, h2, g, off, ha, z0, z1, z2, z3, z4, z5⟩ := hc k x hx
  exact ⟨h1, h2, g, off, ha, c.cellN z0, c.cellN z1, c.cellN z2, c.cellN z3, c.cellN z4, c.cellN z5⟩
end Go.Proofs.Ytfmcfcjcmmlmfaa
