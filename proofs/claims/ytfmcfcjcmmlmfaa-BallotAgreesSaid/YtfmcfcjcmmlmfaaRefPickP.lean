/- The document's pick is the program's pick: plain. -/
import Derived.Test.YtfmcfcjcmmlmfaaPickW
import Derived.Test.YtfmcfcjcmmlmfaaPlaceW
namespace Go.Proofs.Ytfmcfcjcmmlmfaa
open Go Go.RowKit Go.Maps
set_option linter.unusedVariables false

/-- vote x at place k beats vote y at place i -/
def Beats (x y : VT) (k i : Nat) : Prop := x.slot = y.slot ∧ (y.b < x.b ∨ x.b = y.b ∧ k < i)
instance (x y : VT) (k i : Nat) : Decidable (Beats x y k i) := by unfold Beats; infer_instance
/-- none ahead of place n beats the vote at place i -/
def BestTo (l : List VT) (i n : Nat) : Prop := ∀ k x y, k < n → l[k]? = some x → l[i]? = some y → ¬ Beats x y k i
def Best (l : List VT) (i : Nat) : Prop := BestTo l i l.length
def insAt (out : List VT) (x : VT) : List VT := out.take (placeF out x.slot) ++ x :: out.drop (placeF out x.slot)

theorem getElem?_snoc {l : List VT} {x y : VT} {k : Nat} (h : (l ++ [x])[k]? = some y) : (k < l.length ∧ l[k]? = some y) ∨ (k = l.length ∧ y = x) := by
  by_cases hk : k < l.length
  · rw [List.getElem?_append_left hk] at h; exact .inl ⟨hk, h⟩
  · rw [List.getElem?_append_right (by omega)] at h
    have : k - l.length = 0 := by
      have := (List.getElem?_eq_some_iff.1 h).1
      simp at this; omega
    rw [this] at h
    exact .inr ⟨by omega, by simpa using h.symm⟩
theorem best_one {l : List VT} {j k : Nat} {x y : VT} (hx : l[j]? = some x) (hy : l[k]? = some y) (hj : Best l j) (hk : Best l k) (e : x.slot = y.slot) : j = k := by
  have lj := (List.getElem?_eq_some_iff.1 hx).1
  have lk := (List.getElem?_eq_some_iff.1 hy).1
  have h1 := hj k y x lk hy hx
  have h2 := hk j x y lj hx hy
  unfold Beats at h1 h2
  rcases Int.lt_trichotomy x.b y.b with h | h | h
  · exact absurd ⟨e.symm, .inl h⟩ h1
  · rcases Nat.lt_trichotomy j k with hh | hh | hh
    · exact absurd ⟨e, .inr ⟨h, hh⟩⟩ h2
    · exact hh
    · exact absurd ⟨e.symm, .inr ⟨h.symm, hh⟩⟩ h1
  · exact absurd ⟨e, .inl h⟩ h2

theorem pickStep_rising {m : List VT} (h : Rising VT.slot m) (x : VT) : Rising VT.slot (pickStep m x) := by
  unfold pickStep
  split
  · exact putK_rising VT.slot x m h
  · split
    · exact putK_rising VT.slot x m h
    · exact h
theorem pick_inv : ∀ (n : Nat) (l : List VT), l.length = n → Rising VT.slot (pickF l) ∧ (∀ x ∈ l, ∃ o, getK VT.slot (pickF l) x.slot = some o) ∧ (∀ s o, getK VT.slot (pickF l) s = some o → ∃ j, l[j]? = some o ∧ Best l j)
  | 0, l, h => by
    have : l = [] := List.eq_nil_of_length_eq_zero h
    subst this
    refine ⟨.nil, ?_, ?_⟩
    · intro x hx; cases hx
    · intro s o h; cases h
  | n + 1, l, h => by
    have hne : l ≠ [] := by intro e; subst e; simp at h
    obtain ⟨r, x, rfl⟩ : ∃ r x, l = r ++ [x] := ⟨l.dropLast, l.getLast hne, (List.dropLast_concat_getLast hne).symm⟩
    have hr : r.length = n := by simpa using h
    obtain ⟨i1, i2, i3⟩ := pick_inv n r hr
    rw [pickF_snoc]
    have stay : ∀ s o, s ≠ x.slot ∨ (∃ o0, getK VT.slot (pickF r) x.slot = some o0 ∧ ¬ o0.b < x.b) → getK VT.slot (pickF r) s = some o → ∃ j, (r ++ [x])[j]? = some o ∧ Best (r ++ [x]) j := by
      intro s o hs hg
      obtain ⟨j, hj, hb⟩ := i3 s o hg
      have hjl := (List.getElem?_eq_some_iff.1 hj).1
      refine ⟨j, by rw [List.getElem?_append_left hjl]; exact hj, fun k z y hk hz hy hbt => ?_⟩
      rw [List.getElem?_append_left hjl, hj] at hy
      cases hy
      rcases getElem?_snoc hz with ⟨hkl, hz⟩ | ⟨rfl, rfl⟩
      · exact hb k z o hkl hz hj hbt
      · have hso := (getK_some VT.slot hg).2
        rcases hs with hs | ⟨o0, hg0, hlt⟩
        · exact hs (hso ▸ hbt.1.symm)
        · have e : s = z.slot := by rw [← hso]; exact hbt.1.symm
          rw [e, hg0] at hg
          cases hg
          rcases hbt.2 with h1 | ⟨_, h1⟩
          · exact hlt h1
          · omega
    have newer : (∀ y ∈ r, y.slot = x.slot → y.b < x.b) → Best (r ++ [x]) r.length := by
      intro hall k z y hk hz hy hbt
      rw [List.getElem?_append_right (Nat.le_refl _), Nat.sub_self] at hy
      have hyx : y = x := by simpa using hy.symm
      subst hyx
      rcases getElem?_snoc hz with ⟨hkl, hz⟩ | ⟨rfl, rfl⟩
      · have := hall z (List.mem_of_getElem? hz) hbt.1
        rcases hbt.2 with h1 | ⟨h1, _⟩ <;> omega
      · rcases hbt.2 with h1 | ⟨_, h1⟩ <;> omega
    have put : (∀ y ∈ r, y.slot = x.slot → y.b < x.b) →
        (∀ y ∈ r ++ [x], ∃ o, getK VT.slot (putK VT.slot x (pickF r)) y.slot = some o) ∧ (∀ s o, getK VT.slot (putK VT.slot x (pickF r)) s = some o → ∃ j, (r ++ [x])[j]? = some o ∧ Best (r ++ [x]) j) := by
      intro hall
      refine ⟨fun y hy => ?_, fun s o hg => ?_⟩
      · rw [getK_putK VT.slot i1]
        by_cases e : y.slot = x.slot
        · exact ⟨x, if_pos e⟩
        · rw [if_neg e]
          rcases List.mem_append.1 hy with hy | hy
          · exact i2 y hy
          · exact absurd (by simp at hy; rw [hy]) e
      · rw [getK_putK VT.slot i1] at hg
        by_cases e : s = x.slot
        · rw [if_pos e] at hg; cases hg
          exact ⟨r.length, by simp, newer hall⟩
        · rw [if_neg e] at hg
          exact stay s o (.inl e) hg
    refine ⟨pickStep_rising i1 x, ?_⟩
    unfold pickStep
    cases hg : getK VT.slot (pickF r) x.slot with
    | none =>
      refine put fun y hy e => ?_
      obtain ⟨o, ho⟩ := i2 y hy
      rw [e, hg] at ho; cases ho
    | some o0 =>
      by_cases hlt : o0.b < x.b
      · simp only [hlt, if_true]
        refine put fun y hy e => ?_
        obtain ⟨j, hj, hb⟩ := i3 _ _ hg
        obtain ⟨k, hk⟩ := List.getElem?_of_mem hy
        have := hb k y o0 (List.getElem?_eq_some_iff.1 hk).1 hk hj
        have hs := (getK_some VT.slot hg).2
        by_cases h2 : o0.b < y.b
        · exact absurd ⟨by rw [e, hs], .inl h2⟩ this
        · omega
      · simp only [hlt, if_false]
        refine ⟨fun y hy => ?_, fun s o hgs => ?_⟩
        · rcases List.mem_append.1 hy with hy | hy
          · exact i2 y hy
          · simp at hy; subst hy; exact ⟨o0, hg⟩
        · by_cases e : s = x.slot
          · exact stay s o (.inr ⟨o0, hg, hlt⟩) hgs
          · exact stay s o (.inl e) hgs
theorem pickF_rising (l : List VT) : Rising VT.slot (pickF l) := (pick_inv _ l rfl).1
theorem mem_pickF (l : List VT) (y : VT) : y ∈ pickF l ↔ ∃ j, l[j]? = some y ∧ Best l j := by
  obtain ⟨h1, h2, h3⟩ := pick_inv _ l rfl
  constructor
  · intro hy
    exact h3 y.slot y ((getK_mem VT.slot h1).2 ⟨hy, rfl⟩)
  · rintro ⟨j, hj, hb⟩
    obtain ⟨o, ho⟩ := h2 y (List.mem_of_getElem? hj)
    obtain ⟨k, hk, hbk⟩ := h3 _ _ ho
    have hs := (getK_some VT.slot ho).2
    have := best_one hj hk hb hbk hs.symm
    subst this
    rw [hj] at hk; cases hk
    exact (getK_some VT.slot ho).1

/-- rising lists of one content are one -/
theorem rising_ext {a b : List VT} (ha : Rising VT.slot a) (hb : Rising VT.slot b) (h : ∀ x, x ∈ a ↔ x ∈ b) : a = b := by
  induction a generalizing b with
  | nil =>
    cases b with
    | nil => rfl
    | cons y r => exact absurd ((h y).2 (by simp)) (by simp)
  | cons x r ih =>
    obtain ⟨a1, a2⟩ := List.pairwise_cons.1 ha
    cases b with
    | nil => exact absurd ((h x).1 (by simp)) (by simp)
    | cons y s =>
      obtain ⟨b1, b2⟩ := List.pairwise_cons.1 hb
      have hxy : x = y := by
        rcases List.mem_cons.1 ((h x).1 (by simp)) with e | hm
        · exact e
        · rcases List.mem_cons.1 ((h y).2 (by simp)) with e | hm2
          · exact e.symm
          · have := b1 x hm; have := a1 y hm2; omega
      subst hxy
      congr 1
      refine ih a2 b2 fun z => ?_
      constructor
      · intro hz
        rcases List.mem_cons.1 ((h z).1 (by simp [hz])) with e | hm
        · subst e; have := a1 z hz; omega
        · exact hm
      · intro hz
        rcases List.mem_cons.1 ((h z).2 (by simp [hz])) with e | hm
        · subst e; have := b1 z hz; omega
        · exact hm
theorem insAt_eq (x : VT) : ∀ out : List VT, Rising VT.slot out → (∀ y ∈ out, y.slot ≠ x.slot) → insAt out x = insK VT.slot x out
  | [], _, _ => rfl
  | y :: r, h, hn => by
    obtain ⟨h1, h2⟩ := List.pairwise_cons.1 h
    have hy := hn y (by simp)
    unfold insAt placeF insK
    by_cases hl : x.slot < y.slot
    · have hnl : ¬ y.slot < x.slot := by omega
      simp [hl, hnl]
    · have hlt : y.slot < x.slot := by omega
      have ih := insAt_eq x r h2 (fun z hz => hn z (by simp [hz]))
      unfold insAt placeF at ih
      simp only [List.takeWhile_cons, hlt, decide_true, if_true, List.length_cons, List.take_succ_cons, List.drop_succ_cons, List.cons_append, ih, hl, if_false]

/-- the document's way, vote by vote -/
structure RefInv (all : List VT) (i : Nat) (out : List VT) : Prop where
  rise : Rising VT.slot out
  mem : ∀ x, x ∈ out ↔ ∃ j, j < i ∧ all[j]? = some x ∧ Best all j
  len : out.length ≤ i
theorem insK_len (x : VT) : ∀ l : List VT, (insK VT.slot x l).length = l.length + 1
  | [] => rfl
  | y :: r => by unfold insK; split <;> simp [insK_len x r]
theorem RefInv.start (all : List VT) : RefInv all 0 [] := ⟨.nil, fun x => ⟨(fun h => absurd h (by simp)), (fun ⟨j, h, _⟩ => absurd h (by omega))⟩, Nat.le_refl _⟩
theorem RefInv.put {all out : List VT} {i : Nat} {x : VT} (h : RefInv all i out) (hx : all[i]? = some x) (hb : Best all i) : RefInv all (i + 1) (insAt out x) := by
  have hn : ∀ y ∈ out, y.slot ≠ x.slot := fun y hy e => by
    obtain ⟨j, hj, hy2, hbj⟩ := (h.mem y).1 hy
    have := best_one hy2 hx hbj hb e
    omega
  rw [insAt_eq x out h.rise hn]
  refine ⟨insK_rising VT.slot x out h.rise hn, fun y => ?_, by rw [insK_len]; have := h.len; omega⟩
  rw [mem_insK, h.mem]
  constructor
  · rintro (rfl | ⟨j, hj, h1, h2⟩)
    · exact ⟨i, by omega, hx, hb⟩
    · exact ⟨j, by omega, h1, h2⟩
  · rintro ⟨j, hj, h1, h2⟩
    by_cases e : j = i
    · subst e; rw [hx] at h1; cases h1; exact .inl rfl
    · exact .inr ⟨j, by omega, h1, h2⟩
theorem RefInv.skip {all out : List VT} {i : Nat} (h : RefInv all i out) (hb : ¬ Best all i) : RefInv all (i + 1) out := by
  refine ⟨h.rise, fun y => ?_, by have := h.len; omega⟩
  rw [h.mem]
  constructor
  · rintro ⟨j, hj, h1, h2⟩; exact ⟨j, by omega, h1, h2⟩
  · rintro ⟨j, hj, h1, h2⟩
    by_cases e : j = i
    · subst e; exact absurd h2 hb
    · exact ⟨j, by omega, h1, h2⟩
theorem RefInv.done {all out : List VT} (h : RefInv all all.length out) : out = pickF all := by
  refine rising_ext h.rise (pickF_rising all) fun x => ?_
  rw [h.mem, mem_pickF]
  constructor
  · rintro ⟨j, _, h1, h2⟩; exact ⟨j, h1, h2⟩
  · rintro ⟨j, h1, h2⟩; exact ⟨j, (List.getElem?_eq_some_iff.1 h1).1, h1, h2⟩

/-- picked again it is the same -/
theorem pickF_idem_aux (l : List VT) : ∀ m : List VT, (∀ x ∈ l, getK VT.slot m x.slot = some x) → l.foldl pickStep m = m := by
  induction l with
  | nil => intro m _; rfl
  | cons x r ih =>
    intro m h
    have hx := h x (by simp)
    have e : pickStep m x = m := by unfold pickStep; rw [hx]; simp
    rw [List.foldl_cons, e]
    exact ih m fun y hy => h y (by simp [hy])
theorem pickF_of_rising {l : List VT} (h : Rising VT.slot l) : pickF l = l := by
  refine rising_ext (pickF_rising l) h fun x => ?_
  rw [mem_pickF]
  constructor
  · rintro ⟨j, hj, _⟩; exact List.mem_of_getElem? hj
  · intro hx
    obtain ⟨j, hj⟩ := List.getElem?_of_mem hx
    refine ⟨j, hj, fun k y z hk hy hz hb => ?_⟩
    rw [hj] at hz; cases hz
    have : y = x := rising_one VT.slot h (List.mem_of_getElem? hy) hx hb.1
    subst this
    rcases hb.2 with h1 | ⟨_, h1⟩
    · omega
    · have hkj : k = j := by
        rcases Nat.lt_trichotomy k j with hh | hh | hh
        · have := List.pairwise_iff_getElem.1 h k j hk (List.getElem?_eq_some_iff.1 hj).1 hh
          rw [(List.getElem?_eq_some_iff.1 hy).2, (List.getElem?_eq_some_iff.1 hj).2] at this; omega
        · exact hh
        · omega
      omega
theorem pickF_twice (l : List VT) : pickF (pickF l ++ pickF l) = pickF l := by
  have h := pickF_of_rising (pickF_rising l)
  have e : pickF (pickF l ++ pickF l) = (pickF l).foldl pickStep (pickF (pickF l)) := by unfold pickF; rw [List.foldl_append]
  rw [e, h]
  exact pickF_idem_aux _ _ fun x hx => (getK_mem VT.slot (pickF_rising l)).2 ⟨hx, rfl⟩
end Go.Proofs.Ytfmcfcjcmmlmfaa
