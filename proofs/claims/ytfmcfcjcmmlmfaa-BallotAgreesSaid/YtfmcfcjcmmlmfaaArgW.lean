/- The law's arguments, opened: acts, votes, lists of votes. -/
import Derived.Test.YtfmcfcjcmmlmfaaSameW
import Derived.Deep.Slices
import Derived.ChangeArms
namespace Go.Proofs.Ytfmcfcjcmmlmfaa
open Go Go.RowKit Go.Maps
set_option linter.unusedVariables false

section
variable {H : Type} {enc : TypeId × Value → H} {w : World} {base : Nat} {spare : Nat → Bool} {held : Bool}

theorem i64_of_wf {n : Int} (h : (Lit.int .i64 n).wf = true) : i64r n := by
  have h1 : IntKind.i64.min = -9223372036854775808 := by decide
  have h2 : IntKind.i64.max = 9223372036854775807 := by decide
  simp only [Lit.wf, h1, h2, Bool.and_eq_true, decide_eq_true_eq] at h
  exact h

theorem structVote : ∃ fs, Try.prog.underlying 47 = some (.struct fs) ∧ fs.toList.map (fun f => (f.type, f.offset)) = [(3, 0), (2, 1), (9, 2)] :=
  ⟨_, Try.underlying47, by kernel_rfl⟩
theorem cells_int : Try.prog.cellsOf 3 = 1 := by kernel_rfl
theorem cells_int64 : Try.prog.cellsOf 2 = 1 := by kernel_rfl
theorem cells_string : Try.prog.cellsOf 9 = 1 := by kernel_rfl
theorem cells_vote : Try.prog.cellsOf 47 = 3 := by kernel_rfl
theorem uInt64 : Try.prog.underlying 2 = some (.int .i64) := by kernel_rfl

/-- a field of a struct, by its place -/
theorem field_at {fs : Array Field} {l : List (TypeId × Nat)} (h : fs.toList.map (fun f => (f.type, f.offset)) = l) {i : Nat} {t o : Nat} (hl : l[i]? = some (t, o)) : ∃ f, fs[i]? = some f ∧ f.type = t ∧ f.offset = o := by
  rw [← h, List.getElem?_map] at hl
  cases hf : fs.toList[i]? with
  | none => rw [hf] at hl; cases hl
  | some f =>
    rw [hf] at hl
    simp only [Option.map_some, Option.some.injEq, Prod.mk.injEq] at hl
    exact ⟨f, by simpa using hf, hl.1, hl.2⟩

theorem vote_cells {fuel : Nat} {cs : List Value} {x : DataW H × List MemPlace} (h : DataW.trod enc Try.prog w base spare held fuel 47 cs = some x) :
    ∃ y : VT, cs = y.cells ∧ i64r y.slot ∧ i64r y.b := by
  obtain ⟨fs, hs, hf⟩ := structVote
  obtain ⟨xs, k, rfl, -, hlen, hxs, hx⟩ := DataW.trod_struct hs h
  rw [cells_vote] at hlen
  obtain ⟨f0, g0, t0, o0⟩ := field_at hf (i := 0) rfl
  obtain ⟨f1, g1, t1, o1⟩ := field_at hf (i := 1) rfl
  obtain ⟨f2, g2, t2, o2⟩ := field_at hf (i := 2) rfl
  clear hs h
  obtain ⟨v0, v1, v2, rfl⟩ : ∃ v0 v1 v2, cs = [v0, v1, v2] := by
    rcases cs with _ | ⟨v0, _ | ⟨v1, _ | ⟨v2, _ | ⟨v3, r⟩⟩⟩⟩ <;> simp at hlen
    exact ⟨_, _, _, rfl⟩
  · have e0 := hx 0 f0 g0
    have e1 := hx 1 f1 g1
    have e2 := hx 2 f2 g2
    rw [t0, o0, cells_int] at e0
    rw [t1, o1, cells_int64] at e1
    rw [t2, o2, cells_string] at e2
    have hxl : xs.length = 3 := by
      have := congrArg List.length hf
      simp at this
      omega
    obtain ⟨x0, q0⟩ : ∃ y, xs[0]? = some y := ⟨_, List.getElem?_eq_getElem (by omega)⟩
    obtain ⟨x1, q1⟩ : ∃ y, xs[1]? = some y := ⟨_, List.getElem?_eq_getElem (by omega)⟩
    obtain ⟨x2, q2⟩ : ∃ y, xs[2]? = some y := ⟨_, List.getElem?_eq_getElem (by omega)⟩
    rw [q0] at e0
    rw [q1] at e1
    rw [q2] at e2
    obtain ⟨n0, r0, -, w0⟩ := DataW.trod_int uInt e0
    obtain ⟨n1, r1, -, w1⟩ := DataW.trod_int uInt64 e1
    obtain ⟨s2, r2, -, -⟩ := DataW.trod_string uString e2
    simp at r0 r1 r2
    subst r0; subst r1; subst r2
    exact ⟨⟨n0, n1, s2⟩, rfl, i64_of_wf w0, i64_of_wf w1⟩

theorem structAct : ∃ fs, Try.prog.underlying 39 = some (.struct fs) ∧ fs.toList.map (fun f => (f.type, f.offset)) = [(3, 0), (3, 1), (3, 2), (2, 3), (9, 4), (37, 5)] :=
  ⟨_, Try.underlying39, by kernel_rfl⟩
theorem cells_act : Try.prog.cellsOf 39 = 6 := by kernel_rfl
theorem cells_ints : Try.prog.cellsOf 37 = 1 := by kernel_rfl
theorem uInts2 : Try.prog.underlying 37 = some (.slice 3) := by kernel_rfl

/-- a slice's own cell -/
theorem slice_cell {t e : TypeId} (ht : Try.prog.underlying t = some (.slice e)) {fuel : Nat} {cs : List Value} {x : DataW H × List MemPlace} (h : DataW.trod enc Try.prog w base spare held fuel t cs = some x) :
    ∃ a n c, cs = [.slice a n c] ∧ n ≤ c ∧ c ≤ maxLen := by
  rcases DataW.trod_slice ht h with ⟨rfl, -⟩ | ⟨a, len, cap, -, -, -, -, rfl, -, -, h1, h2, -⟩
  · exact ⟨none, 0, 0, rfl, Nat.le_refl _, Nat.zero_le _⟩
  · exact ⟨_, _, _, rfl, h1, h2⟩

theorem act_cells {fuel : Nat} {cs : List Value} {x : DataW H × List MemPlace} (h : DataW.trod enc Try.prog w base spare held fuel 39 cs = some x) :
    ∃ (k n s b : Int) (v : ByteArray) (ka : Option Addr) (kn kc : Nat), cs = [.int .i64 k, .int .i64 n, .int .i64 s, .int .i64 b, .string v, .slice ka kn kc] ∧ i64r s ∧ kn ≤ kc := by
  obtain ⟨fs, hs, hf⟩ := structAct
  obtain ⟨xs, k, rfl, -, hlen, hxs, hx⟩ := DataW.trod_struct hs h
  rw [cells_act] at hlen
  obtain ⟨f0, g0, t0, o0⟩ := field_at hf (i := 0) rfl
  obtain ⟨f1, g1, t1, o1⟩ := field_at hf (i := 1) rfl
  obtain ⟨f2, g2, t2, o2⟩ := field_at hf (i := 2) rfl
  obtain ⟨f3, g3, t3, o3⟩ := field_at hf (i := 3) rfl
  obtain ⟨f4, g4, t4, o4⟩ := field_at hf (i := 4) rfl
  obtain ⟨f5, g5, t5, o5⟩ := field_at hf (i := 5) rfl
  clear hs h
  obtain ⟨v0, v1, v2, v3, v4, v5, rfl⟩ : ∃ v0 v1 v2 v3 v4 v5, cs = [v0, v1, v2, v3, v4, v5] := by
    rcases cs with _ | ⟨v0, _ | ⟨v1, _ | ⟨v2, _ | ⟨v3, _ | ⟨v4, _ | ⟨v5, _ | ⟨v6, r⟩⟩⟩⟩⟩⟩⟩ <;> simp at hlen
    exact ⟨_, _, _, _, _, _, rfl⟩
  have e0 := hx 0 f0 g0
  have e1 := hx 1 f1 g1
  have e2 := hx 2 f2 g2
  have e3 := hx 3 f3 g3
  have e4 := hx 4 f4 g4
  have e5 := hx 5 f5 g5
  rw [t0, o0, cells_int] at e0
  rw [t1, o1, cells_int] at e1
  rw [t2, o2, cells_int] at e2
  rw [t3, o3, cells_int64] at e3
  rw [t4, o4, cells_string] at e4
  rw [t5, o5, cells_ints] at e5
  have hxl : xs.length = 6 := by
    have := congrArg List.length hf
    simp at this
    omega
  obtain ⟨x0, q0⟩ : ∃ y, xs[0]? = some y := ⟨_, List.getElem?_eq_getElem (by omega)⟩
  obtain ⟨x1, q1⟩ : ∃ y, xs[1]? = some y := ⟨_, List.getElem?_eq_getElem (by omega)⟩
  obtain ⟨x2, q2⟩ : ∃ y, xs[2]? = some y := ⟨_, List.getElem?_eq_getElem (by omega)⟩
  obtain ⟨x3, q3⟩ : ∃ y, xs[3]? = some y := ⟨_, List.getElem?_eq_getElem (by omega)⟩
  obtain ⟨x4, q4⟩ : ∃ y, xs[4]? = some y := ⟨_, List.getElem?_eq_getElem (by omega)⟩
  obtain ⟨x5, q5⟩ : ∃ y, xs[5]? = some y := ⟨_, List.getElem?_eq_getElem (by omega)⟩
  rw [q0] at e0
  rw [q1] at e1
  rw [q2] at e2
  rw [q3] at e3
  rw [q4] at e4
  rw [q5] at e5
  obtain ⟨n0, r0, -, w0⟩ := DataW.trod_int uInt e0
  obtain ⟨n1, r1, -, w1⟩ := DataW.trod_int uInt e1
  obtain ⟨n2, r2, -, w2⟩ := DataW.trod_int uInt e2
  obtain ⟨n3, r3, -, w3⟩ := DataW.trod_int uInt64 e3
  obtain ⟨s4, r4, -, -⟩ := DataW.trod_string uString e4
  obtain ⟨a5, n5, c5, r5, hn5, -⟩ := slice_cell uInts2 e5
  simp at r0 r1 r2 r3 r4 r5
  subst r0; subst r1; subst r2; subst r3; subst r4; subst r5
  exact ⟨n0, n1, n2, n3, s4, a5, n5, c5, rfl, i64_of_wf w2, hn5⟩

theorem add_plain' (b off i : Nat) : (⟨b, off, none⟩ : Addr).add i = ⟨b, off + i, none⟩ := by
  unfold Addr.add
  by_cases h : i = 0 <;> simp [h]
end
end Go.Proofs.Ytfmcfcjcmmlmfaa
