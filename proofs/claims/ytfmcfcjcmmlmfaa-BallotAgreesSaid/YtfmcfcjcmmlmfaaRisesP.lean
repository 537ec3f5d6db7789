/- What an acceptor's state keeps: plain. -/
import Derived.Test.YtfmcfcjcmmlmfaaAccS
namespace Go.Proofs.Ytfmcfcjcmmlmfaa
open Go Go.RowKit Go.Maps
set_option linter.unusedVariables false

structure AGood (p : Int) (m : List VT) (N : Nat) : Prop where
  rise : Rising VT.slot m
  le : ∀ x ∈ m, x.b ≤ p
  slots : ∀ x ∈ m, 1 ≤ x.slot ∧ x.slot ≤ 1000
  len : m.length ≤ N
  pos : 0 ≤ p ∧ p ≤ 1099511627776
structure Grows (p : Int) (m : List VT) (p' : Int) (m' : List VT) : Prop where
  le : p ≤ p'
  keep : ∀ y ∈ m, ∃ z ∈ m', z.slot = y.slot ∧ (y.b < z.b ∨ z = y)
theorem Grows.refl (p : Int) (m : List VT) : Grows p m p m := ⟨Int.le_refl _, fun y hy => ⟨y, hy, rfl, .inr rfl⟩⟩
theorem Grows.trans {p p1 p2 : Int} {m m1 m2 : List VT} (h : Grows p m p1 m1) (k : Grows p1 m1 p2 m2) : Grows p m p2 m2 := by
  refine ⟨Int.le_trans h.le k.le, fun y hy => ?_⟩
  obtain ⟨z, hz, hs, hb⟩ := h.keep y hy
  obtain ⟨u, hu, hs2, hb2⟩ := k.keep z hz
  refine ⟨u, hu, hs2.trans hs, ?_⟩
  rcases hb with hb | rfl
  · rcases hb2 with hb2 | rfl
    · exact .inl (by omega)
    · exact .inl hb
  · exact hb2
theorem good0 : AGood 0 [] 0 := ⟨.nil, fun _ h => (by cases h), fun _ h => (by cases h), Nat.le_refl _, by decide⟩
theorem AGood.mono {p : Int} {m : List VT} {N N' : Nat} (h : AGood p m N) (hN : N ≤ N') : AGood p m N' := ⟨h.rise, h.le, h.slots, Nat.le_trans h.len hN, h.pos⟩

theorem prep_le (p b : Int) : p ≤ prepP p b := by
  unfold prepP; split
  · omega
  · omega
theorem why_iff (p b : Int) : whyF p b = 0 ↔ (1 ≤ b ∧ b ≤ 1099511627776) ∧ p ≤ b := by
  constructor
  · exact why_zero
  · rintro ⟨h1, h2⟩
    unfold whyF
    rw [if_neg (fun h => h h1), if_neg (by omega)]
theorem prep_eq {p b : Int} (h : whyF p b = 0) : prepP p b = b := by
  have := (why_iff p b).1 h
  unfold prepP
  by_cases h2 : p < b
  · rw [if_pos ⟨h, h2⟩]
  · rw [if_neg (fun h => h2 h.2)]; omega
theorem AGood.prep {p : Int} {m : List VT} {N : Nat} (h : AGood p m N) (b : Int) : AGood (prepP p b) m N := by
  refine ⟨h.rise, fun x hx => Int.le_trans (h.le x hx) (prep_le p b), h.slots, h.len, ?_⟩
  have := h.pos
  by_cases hw : whyF p b = 0
  · rw [prep_eq hw]; have := (why_iff p b).1 hw; omega
  · unfold prepP; rw [if_neg (fun h => hw h.1)]; exact h.pos
theorem Grows.prep (p b : Int) (m : List VT) : Grows p m (prepP p b) m := ⟨prep_le p b, fun y hy => ⟨y, hy, rfl, .inr rfl⟩⟩

theorem AGood.acc {p : Int} {m : List VT} {N : Nat} (h : AGood p m N) (x : VT) : AGood (accProm p m x) (accVotes p m x) (N + 1) := by
  unfold accProm accVotes
  split
  · rename_i hc
    obtain ⟨z1, z2, z3⟩ := acc_zero hc.1
    have hb := (why_iff p x.b).1 z1
    have hp := h.pos
    refine ⟨putK_rising VT.slot x m h.rise, fun y hy => ?_, fun y hy => ?_, by have := putK_len x m; have := h.len; omega, by omega⟩
    · rcases (mem_putK VT.slot x y m).1 hy with rfl | ⟨hy, _⟩
      · exact Int.le_max_right _ _
      · exact Int.le_trans (h.le y hy) (Int.le_max_left _ _)
    · rcases (mem_putK VT.slot x y m).1 hy with rfl | ⟨hy, _⟩
      · exact z2
      · exact h.slots y hy
  · exact h.mono (by omega)
theorem AGood.accGrows {p : Int} {m : List VT} {N : Nat} (h : AGood p m N) (x : VT) : Grows p m (accProm p m x) (accVotes p m x) := by
  unfold accProm accVotes
  split
  · rename_i hc
    obtain ⟨z1, z2, z3⟩ := acc_zero hc.1
    have hb := (why_iff p x.b).1 z1
    refine ⟨Int.le_max_left _ _, fun y hy => ?_⟩
    by_cases e : y.slot = x.slot
    · refine ⟨x, (mem_putK VT.slot x x m).2 (.inl rfl), e.symm, .inl ?_⟩
      have hg := (getK_mem VT.slot h.rise).2 ⟨hy, e⟩
      have h1 := hc.2
      unfold accHasP at h1
      rw [hg] at h1
      simp at h1
      have := h.le y hy
      omega
    · exact ⟨y, (mem_putK VT.slot x y m).2 (.inr ⟨hy, e⟩), rfl, .inr rfl⟩
  · exact Grows.refl p m
theorem AGood.accOk {p : Int} {m : List VT} {N : Nat} (h : AGood p m N) {x : VT} (hc : accCodeP p m x = 0) : p ≤ x.b ∧ accProm p m x = x.b := by
  obtain ⟨z1, z2, z3⟩ := acc_zero hc
  have hb := (why_iff p x.b).1 z1
  refine ⟨hb.2, ?_⟩
  unfold accProm
  by_cases hh : accHasP m x = false
  · rw [if_pos ⟨hc, hh⟩]; omega
  · rw [if_neg (fun h => hh h.2)]
    unfold accHasP at hh
    cases hg : getK VT.slot m x.slot with
    | none => rw [hg] at hh; exact absurd rfl hh
    | some o =>
      rw [hg] at hh
      simp at hh
      have := h.le o (getK_some VT.slot hg).1
      omega

/-- the merge: how many of what was lie among the first of what is -/
structure Merge (was now : List VT) (j k : Nat) : Prop where
  le : k ≤ was.length
  past : ∀ i y a z, k ≤ i → was[i]? = some y → a < j → now[a]? = some z → z.slot < y.slot
theorem Merge.start (was now : List VT) : Merge was now 0 0 := ⟨Nat.zero_le _, fun i y a z _ _ ha _ => by omega⟩
theorem rising_lt {l : List VT} (h : Rising VT.slot l) {i j : Nat} {x y : VT} (hx : l[i]? = some x) (hy : l[j]? = some y) (hij : i < j) : x.slot < y.slot := by
  obtain ⟨hi, rfl⟩ := List.getElem?_eq_some_iff.1 hx
  obtain ⟨hj, rfl⟩ := List.getElem?_eq_some_iff.1 hy
  exact List.pairwise_iff_getElem.1 h i j hi hj hij
theorem Merge.same {p p' : Int} {was now : List VT} {j k : Nat} (h : Merge was now j k) (hw : Rising VT.slot was) (hn : Rising VT.slot now) (hg : Grows p was p' now) {z : VT} (hz : now[j]? = some z) {y : VT} (hy : was[k]? = some y) (e : y.slot = z.slot) :
    Merge was now (j + 1) (k + 1) ∧ (y.b < z.b ∨ z = y) := by
  refine ⟨⟨by have := (List.getElem?_eq_some_iff.1 hy).1; omega, fun i u a t hi hu ha ht => ?_⟩, ?_⟩
  · have h1 := rising_lt hw hy hu (by omega)
    by_cases ea : a = j
    · subst ea; rw [hz] at ht; cases ht; omega
    · have := h.past k y a t (Nat.le_refl _) hy (by omega) ht; omega
  · obtain ⟨u, hu, hs, hb⟩ := hg.keep y (List.mem_of_getElem? hy)
    have : u = z := rising_one VT.slot hn hu (List.mem_of_getElem? hz) (by rw [hs, e])
    subst this
    exact hb
theorem Merge.other {p p' : Int} {was now : List VT} {j k : Nat} (h : Merge was now j k) (hw : Rising VT.slot was) (hn : Rising VT.slot now) (hg : Grows p was p' now) {z : VT} (hz : now[j]? = some z) (hy : ∀ y, was[k]? = some y → ¬ y.slot = z.slot) :
    Merge was now (j + 1) k := by
  refine ⟨h.le, fun i u a t hi hu ha ht => ?_⟩
  by_cases ea : a = j
  · subst ea
    rw [hz] at ht; cases ht
    obtain ⟨q, hq, hs, -⟩ := hg.keep u (List.mem_of_getElem? hu)
    obtain ⟨r, hr⟩ := List.getElem?_of_mem hq
    rcases Nat.lt_trichotomy r a with hl | hl | hl
    · have := h.past i u r q hi hu hl hr; omega
    · subst hl
      rw [hz] at hr; cases hr
      rcases Nat.lt_or_ge k i with hk | hk
      · have hki : k < was.length := by have := (List.getElem?_eq_some_iff.1 hu).1; omega
        have hy0 := List.getElem?_eq_getElem hki
        have h1 := rising_lt hw hy0 hu hk
        obtain ⟨q2, hq2, hs2, -⟩ := hg.keep _ (List.mem_of_getElem? hy0)
        obtain ⟨r2, hr2⟩ := List.getElem?_of_mem hq2
        rcases Nat.lt_trichotomy r2 r with hl2 | hl2 | hl2
        · have := h.past k _ r2 q2 (Nat.le_refl _) hy0 hl2 hr2; omega
        · subst hl2; rw [hz] at hr2; cases hr2; omega
        · have := rising_lt hn hz hr2 hl2; omega
      · have : i = k := by omega
        subst this
        exact absurd hs.symm (hy u hu)
    · have := rising_lt hn hz hr hl; omega
  · exact h.past i u a t hi hu (by omega) ht
theorem Merge.done {p p' : Int} {was now : List VT} {k : Nat} (h : Merge was now now.length k) (hg : Grows p was p' now) : k = was.length := by
  have hle := h.le
  by_cases hk : k < was.length
  · have hy := List.getElem?_eq_getElem hk
    obtain ⟨z, hz, hs, -⟩ := hg.keep _ (List.mem_of_getElem? hy)
    obtain ⟨a, ha⟩ := List.getElem?_of_mem hz
    have := h.past k _ a z (Nat.le_refl _) hy (List.getElem?_eq_some_iff.1 ha).1 ha
    omega
  · omega
end Go.Proofs.Ytfmcfcjcmmlmfaa
