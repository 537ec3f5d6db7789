/- What was sure lasts: plain; the loop's invariant. -/
import Derived.Test.YtfmcfcjcmmlmfaaLogS
import Derived.Test.YtfmcfcjcmmlmfaaActsW
import Derived.Laws.StructEq
namespace Go.Proofs.Ytfmcfcjcmmlmfaa
open Go Go.RowKit Go.Maps
set_option linter.unusedVariables false

/-- y's slot is kept, by y or by a greater ballot -/
def Match (z y : VT) : Prop := z.slot = y.slot ∧ (z = y ∨ y.b < z.b)
instance (z y : VT) : Decidable (Match z y) := by unfold Match; infer_instance
theorem Grows.found {p p' : Int} {m m' : List VT} (h : Grows p m p' m') {y : VT} (hy : y ∈ m) : ∃ (q : Nat) (z : VT), q < m'.length ∧ m'[q]? = some z ∧ Match z y := by
  obtain ⟨z, hz, hs, hb⟩ := h.keep y hy
  obtain ⟨q, hq⟩ := List.getElem?_of_mem hz
  exact ⟨q, z, (List.getElem?_eq_some_iff.1 hq).1, hq, hs, hb.symm⟩
theorem rising_sub : ∀ {a b : List Int}, a.Pairwise (· < ·) → b.Pairwise (· < ·) → (∀ x ∈ a, x ∈ b) → a.length ≤ b.length
  | [], b, _, _, _ => Nat.zero_le _
  | x :: a, b, ha, hb, h => by
    obtain ⟨h1, h2⟩ := List.pairwise_cons.1 ha
    obtain ⟨b1, b2, rfl⟩ := List.append_of_mem (h x (by simp))
    obtain ⟨-, hb2, hb3⟩ := List.pairwise_append.1 hb
    obtain ⟨-, hb4⟩ := List.pairwise_cons.1 hb2
    have := rising_sub h2 hb4 (fun y hy => by
      have hxy := h1 y hy
      rcases List.mem_append.1 (h y (by simp [hy])) with hm | hm
      · have := hb3 y hm x (by simp); omega
      · rcases List.mem_cons.1 hm with rfl | hm
        · omega
        · exact hm)
    simp only [List.length_append, List.length_cons]
    omega
theorem Grows.len {p p' : Int} {m m' : List VT} (h : Grows p m p' m') (hm : Rising VT.slot m) (hm' : Rising VT.slot m') : m.length ≤ m'.length := by
  have h3 := rising_sub (a := m.map VT.slot) (b := m'.map VT.slot) (by rw [List.pairwise_map]; exact hm) (by rw [List.pairwise_map]; exact hm') (fun s hs => by
    obtain ⟨y, hy, rfl⟩ := List.mem_map.1 hs
    obtain ⟨z, hz, hsl, -⟩ := h.keep y hy
    exact List.mem_map.2 ⟨z, hz, hsl⟩)
  simpa using h3

theorem voteS : Try.prog.underlying 47 = some (.struct (Try.prog.fieldsOf 47)) := by kernel_rfl
theorem voteP : Try.prog.stoodInHeld 47 = false := by kernel_rfl
theorem voteG : Try.prog.eqGuardType Try.prog.depth 47 = false := by kernel_rfl
theorem vote_eql (x y : VT) (w : World) : (binOp .eql 47 x.val y.val).run Try.prog w = .ok (.bool (decide (x = y))) w := by
  obtain ⟨x1, x2, x3⟩ := x
  obtain ⟨y1, y2, y3⟩ := y
  unfold VT.val
  rw [run_eql_struct, show (10000 : Nat) = 9999 + 1 from rfl, run_equalIn_agg w 9999 47 _ _ voteS voteP]
  simp only [Program.fieldsOf, Try.underlying47]
  have u3 := uInt
  have u2 := uInt64
  have u9 := uString
  by_cases h1 : x1 = y1
  · by_cases h2 : x2 = y2
    · by_cases h3 : x3 = y3
      · subst h1; subst h2; subst h3
        have e : (x3.toList == x3.toList) = true := by simp
        go_simp
      · have e := str_ne h3
        have hd : (⟨x1, x2, x3⟩ : VT) ≠ ⟨y1, y2, y3⟩ := fun h => h3 (by cases h; rfl)
        go_simp
    · go_simp
  · go_simp

structure LastInv (w0 : World) (ab wb mb d : Nat) (c : Nat) (base rs : List RecT) (n : Nat) (v : Value) (m : List VT) (F : Nat → Prop) (A : AccS) (wr : World) : Prop where
  acc : AccAt wr ab wb mb d 0 F A
  is : LogIs A 0 rs n
  len : rs.length ≤ c
  pre : ∃ t, rs = base ++ t
  row : VRow wr v m
  apart : ∀ j, v.ownBlock = some j → ¬ accF F ab wb mb j
  chg : Chg No w0 wr
  fresh : ∀ j, accF F ab wb mb j → w0.heap.size ≤ j
theorem LastInv.kept {w0 wr w1 : World} {ab wb mb d c : Nat} {base rs : List RecT} {n : Nat} {v : Value} {m : List VT} {F : Nat → Prop} {A : AccS} (h : LastInv w0 ab wb mb d c base rs n v m F A wr) (k : Chg No wr w1) : LastInv w0 ab wb mb d c base rs n v m F A w1 :=
  ⟨h.acc.kept k (fun _ _ h => h), h.is, h.len, h.pre, Row.kept h.row k (fun _ _ h => h), h.apart, h.chg.same k, h.fresh⟩
theorem LastInv.more {w0 wr : World} {ab wb mb d c c' : Nat} {base rs : List RecT} {n : Nat} {v : Value} {m : List VT} {F : Nat → Prop} {A : AccS} (h : LastInv w0 ab wb mb d c base rs n v m F A wr) (hc : c ≤ c') : LastInv w0 ab wb mb d c' base rs n v m F A wr :=
  ⟨h.acc, h.is, Nat.le_trans h.len hc, h.pre, h.row, h.apart, h.chg, h.fresh⟩
theorem LastInv.moved {w0 wr w1 : World} {ab wb mb d c c' : Nat} {base rs rs' : List RecT} {n n' : Nat} {v : Value} {m : List VT} {F F' : Nat → Prop} {A A' : AccS} (h : LastInv w0 ab wb mb d c base rs n v m F A wr) (hA : AccAt w1 ab wb mb d 0 F' A') (hI : LogIs A' 0 rs' n') (hU : Upd wr (accF F ab wb mb) w1 (accF F' ab wb mb))
    (hl : rs'.length ≤ c') (hp : ∃ t, rs' = rs ++ t) : LastInv w0 ab wb mb d c' base rs' n' v m F' A' w1 := by
  have hs := h.chg.size
  obtain ⟨t, ht⟩ := h.pre
  obtain ⟨t', ht'⟩ := hp
  refine ⟨hA, hI, hl, ⟨t ++ t', by rw [ht', ht, List.append_assoc]⟩, Row.kept h.row hU.chg (fun j hj hF => h.apart j hj hF), ?_, h.chg.trans hU.chg (fun j hj hF => by have := h.fresh j hF; omega), ?_⟩
  · intro j hj hF
    rcases hU.foot j hF with hF | hF
    · exact h.apart j hj hF
    · have := Row.lt h.row hj; omega
  · intro j hF
    rcases hU.foot j hF with hF | hF
    · exact h.fresh j hF
    · omega
end Go.Proofs.Ytfmcfcjcmmlmfaa
