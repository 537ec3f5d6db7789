/- Walks over the reference of ballot: place. -/
import Derived.Test.YtfmcfcjcmmlmfaaSameW
namespace Go.Proofs.Ytfmcfcjcmmlmfaa
open Go Go.RowKit Go.Maps
set_option linter.unusedVariables false

/-- a slot's place -/
def placeF (l : List VT) (k : Int) : Nat := (l.takeWhile (fun x => decide (x.slot < k))).length
def thereF (l : List VT) (k : Int) : Bool := match l[placeF l k]? with | some x => decide (x.slot = k) | none => false
theorem placeF_le (l : List VT) (k : Int) : placeF l k ≤ l.length := (List.takeWhile_sublist _).length_le
theorem placeF_lt {l : List VT} {k : Int} {j : Nat} {x : VT} (h : l[j]? = some x) (hall : ∀ i y, i < j → l[i]? = some y → y.slot < k) (hx : x.slot < k) : j + 1 ≤ placeF l k := by
  induction l generalizing j with
  | nil => simp at h
  | cons y r ih =>
    unfold placeF
    cases j with
    | zero =>
      have e : x = y := by simpa using h.symm
      subst e
      simp [hx]
    | succ j =>
      have hy : y.slot < k := hall 0 y (by omega) rfl
      have := ih (j := j) (by simpa using h) (fun i z hi hz => hall (i + 1) z (by omega) (by simpa using hz))
      unfold placeF at this
      simp only [List.takeWhile_cons, hy, decide_true, if_true, List.length_cons]
      omega
theorem placeF_at {l : List VT} {k : Int} {j : Nat} (hj : j ≤ l.length) (hall : ∀ i y, i < j → l[i]? = some y → y.slot < k) (hx : ∀ x, l[j]? = some x → ¬ x.slot < k) : placeF l k = j := by
  induction l generalizing j with
  | nil => simp at hj; subst hj; rfl
  | cons y r ih =>
    unfold placeF
    cases j with
    | zero =>
      have := hx y rfl
      simp [this]
    | succ j =>
      have hy : y.slot < k := hall 0 y (by omega) rfl
      have := ih (j := j) (by simpa using hj) (fun i z hi hz => hall (i + 1) z (by omega) (by simpa using hz)) (fun x h => hx x (by simpa using h))
      unfold placeF at this
      simp only [List.takeWhile_cons, hy, decide_true, if_true, List.length_cons, this]

set_option maxHeartbeats 1000000 in
theorem place_ok (w : World) (v : Value) (l : List VT) (s : Int) (h : VSeen w v l) :
    Calls Try.prog 23 #[v, .int .i64 s] w fun e w' => e = .returned (.tuple #[.int .i64 (placeF l s), .bool (thereF l s)]) ∧ Chg No w w' := by
  obtain ⟨a, c, rfl, hl, hc⟩ := h
  have Hc := hid hc
  have Hl := hid hl
  clear hc hl
  go_enter Try.func23, Try.ntmps23
  generalize hL : l.length = L at *
  have HL := hid hL
  clear hL
  go_wp2_with fail
  go_loopw [6] (fun v wr => ∃ j : Nat, v = .int .i64 j ∧ j ≤ L ∧ (∀ i y, i < j → l[i]? = some y → y.slot < s) ∧ Chg No w wr) (fun v _ => L - (intOf v).toNat)
  case atStart => exact ⟨0, rfl, Nat.zero_le _, fun i y hi => by omega, .refl _ _⟩
  case round =>
    obtain ⟨j, rfl, hj, hall, hch⟩ := hrel
    have Hall := hid hall
    have Hch := hid hch
    clear hall hch
    by_cases hlt : j < L
    · obtain ⟨x, hx⟩ : ∃ x, l[j]? = some x := ⟨_, List.getElem?_eq_getElem (by rw [HL.out]; exact hlt)⟩
      obtain ⟨g, off, rfl, a0, a1, a2⟩ := Hc.out j x hx
      replace a0 := Hch.out.cellN a0
      have Hx := hid hx
      have hI : (j : Int) < (L : Int) := by omega
      have hwj : wrap64 ((j : Int) + 1) = (j : Int) + 1 := by have := Hl.out; unfold wrap64; omega
      clear hx a1 a2
      by_cases hs : x.slot < s
      · go_wp2_with fail
        refine ⟨⟨j + 1, by go_num, by omega, ?_, Hch.out⟩, by first | (rw [hwj]; show L - ((j : Int) + 1).toNat < L - (j : Int).toNat; omega) | (show L - ((j : Int) + 1).toNat < L - (j : Int).toNat; omega)⟩
        intro i y hi hy
        by_cases e : i = j
        · subst e; rw [Hx.out] at hy; cases hy; exact hs
        · exact Hall.out i y (by omega) hy
      · have hp : placeF l s = j := placeF_at (by rw [HL.out]; exact hj) Hall.out (fun y hy => by rw [Hx.out] at hy; cases hy; exact hs)
        have ht : thereF l s = decide (x.slot = s) := by unfold thereF; rw [hp, Hx.out]
        have HP := hid hp
        have HT := hid ht
        clear hp ht
        go_wp2_with fail
        go_quiet (fail)
        go_wp2_with fail
        go_ret2
        exact ⟨by rw [HP.out, HT.out]; rfl, Hch.out.drewN _⟩
    · have hjj : j = L := by omega
      have hp : placeF l s = L := placeF_at (by rw [HL.out]; exact Nat.le_refl _) (by rw [← hjj]; exact Hall.out) (fun y hy => by rw [List.getElem?_eq_none (by rw [HL.out]; exact Nat.le_refl _)] at hy; cases hy)
      have ht : thereF l s = false := by unfold thereF; rw [hp, List.getElem?_eq_none (by rw [HL.out]; exact Nat.le_refl _)]
      have HP := hid hp
      have HT := hid ht
      clear hp ht
      subst hjj
      go_wp2_with fail
      go_quiet (fail)
      go_wp2_with fail
      go_ret2
      exact ⟨by rw [HP.out, HT.out]; rfl, Hch.out.drewN _⟩
end Go.Proofs.Ytfmcfcjcmmlmfaa
