/- They agree: the plain law (who promised, what was accepted, what was chosen). -/
import Derived.Test.YtfmcfcjcmmlmfaaLogS
import Derived.Test.YtfmcfcjcmmlmfaaRefPickP
namespace Go.Proofs.Ytfmcfcjcmmlmfaa
open Go Go.RowKit Go.Maps
set_option linter.unusedVariables false

/-- how many of n -/
def cntB (n : Nat) (q : Nat → Bool) : Nat := (List.range n).countP q
theorem cntB_succ (n : Nat) (q : Nat → Bool) : cntB (n + 1) q = cntB n q + (if q n then 1 else 0) := by
  unfold cntB
  rw [List.range_succ, List.countP_append]
  cases h : q n <;> simp [h]
theorem cntB_le (n : Nat) (q : Nat → Bool) : cntB n q ≤ n := by
  induction n with
  | zero => simp [cntB]
  | succ n ih => rw [cntB_succ]; split <;> omega
theorem cntB_mono {n : Nat} {p q : Nat → Bool} (h : ∀ k, k < n → p k = true → q k = true) : cntB n p ≤ cntB n q := by
  induction n with
  | zero => simp [cntB]
  | succ n ih =>
    rw [cntB_succ, cntB_succ]
    have := ih (fun k hk => h k (by omega))
    by_cases hp : p n = true
    · rw [if_pos hp, if_pos (h n (by omega) hp)]; omega
    · rw [if_neg hp]; omega
theorem cntB_meet (n : Nat) (p q : Nat → Bool) : cntB n p + cntB n q ≤ n + cntB n (fun k => p k && q k) := by
  induction n with
  | zero => simp [cntB]
  | succ n ih =>
    rw [cntB_succ, cntB_succ, cntB_succ]
    cases p n <;> cases q n <;> simp <;> omega
theorem cntB_some {n : Nat} {q : Nat → Bool} (h : 0 < cntB n q) : ∃ k, k < n ∧ q k = true := by
  induction n with
  | zero => simp [cntB] at h
  | succ n ih =>
    rw [cntB_succ] at h
    by_cases hq : q n = true
    · exact ⟨n, by omega, hq⟩
    · rw [if_neg hq] at h
      obtain ⟨k, hk, hk2⟩ := ih (by omega)
      exact ⟨k, by omega, hk2⟩
def Maj (n : Nat) (q : Nat → Bool) : Prop := n < 2 * cntB n q
theorem Maj.meet {n : Nat} {p q : Nat → Bool} (hp : Maj n p) (hq : Maj n q) : ∃ k, k < n ∧ p k = true ∧ q k = true := by
  have h := cntB_meet n p q
  unfold Maj at hp hq
  obtain ⟨k, hk, hk2⟩ := cntB_some (n := n) (q := fun k => p k && q k) (by omega)
  simp at hk2
  exact ⟨k, hk, hk2.1, hk2.2⟩
theorem Maj.mono {n : Nat} {p q : Nat → Bool} (hp : Maj n p) (h : ∀ k, k < n → p k = true → q k = true) : Maj n q := by
  have := cntB_mono h
  unfold Maj at *
  omega

/-- votes of a state are records -/
theorem state_rec : ∀ (m : Nat) (l : List RecT), l.length = m → ∀ y ∈ (stateR l).2, RecT.a y ∈ l
  | 0, l, h, y, hy => by
    have : l = [] := List.eq_nil_of_length_eq_zero h
    subst this
    cases hy
  | m + 1, l, h, y, hy => by
    have hne : l ≠ [] := by intro e; subst e; simp at h
    obtain ⟨t, r, rfl⟩ : ∃ t r, l = t ++ [r] := ⟨l.dropLast, l.getLast hne, (List.dropLast_concat_getLast hne).symm⟩
    have ih := state_rec m t (by simpa using h)
    rw [stateR_snoc] at hy
    cases r with
    | p b => exact List.mem_append_left _ (ih y hy)
    | a x =>
      rcases (mem_putK VT.slot x y _).1 hy with rfl | ⟨hy, _⟩
      · simp
      · exact List.mem_append_left _ (ih y hy)
/-- records stay votes, or greater ones -/
theorem rec_state {l : List RecT} (h : VR l) {x : VT} (hx : RecT.a x ∈ l) : ∃ y ∈ (stateR l).2, y.slot = x.slot ∧ x.b ≤ y.b := by
  obtain ⟨a, b, rfl⟩ := List.append_of_mem hx
  have e : a ++ RecT.a x :: b = (a ++ [RecT.a x]) ++ b := by simp
  rw [e] at h ⊢
  have hg := VR.grows h
  have hin : x ∈ (stateR (a ++ [RecT.a x])).2 := by
    rw [stateR_snoc]
    exact (mem_putK VT.slot x x _).2 (.inl rfl)
  obtain ⟨z, hz, hs, hb⟩ := hg.keep x hin
  refine ⟨z, hz, hs, ?_⟩
  rcases hb with hb | rfl
  · omega
  · exact Int.le_refl _
theorem VR.take {l : List RecT} (h : VR l) (k : Nat) : VR (l.take k) := by
  rw [← List.take_append_drop k l] at h
  exact h.pre
theorem prom_take {l : List RecT} (h : VR l) (k : Nat) : (stateR (l.take k)).1 ≤ (stateR l).1 := by
  have h2 := h
  rw [← List.take_append_drop k l] at h2
  have := VR.grows h2
  rw [List.take_append_drop] at this
  exact this.le
theorem take_take_le {α : Type} (l : List α) {i j : Nat} (h : i ≤ j) : (l.take j).take i = l.take i := by rw [List.take_take, Nat.min_eq_left h]
theorem prom_mono {l : List RecT} (h : VR l) {i j : Nat} (hij : i ≤ j) : (stateR (l.take i)).1 ≤ (stateR (l.take j)).1 := by
  have := prom_take (h.take j) i
  rw [take_take_le l hij] at this
  exact this

/-- what happened among acceptors -/
structure PS where
  rs : Nat → List RecT
  sn : Nat → Nat
  said : Nat → Nat → Bool
  vt : Nat → Nat → List VT
  fixed : Nat → Nat → Bool
  value : Nat → Nat → ByteArray
  took : Nat → Nat → Nat → Bool
  is : Nat → Bool
  chosen : Nat → ByteArray

/-- acceptor k will never have accepted in slot s by ballot c -/
def PS.Never (S : PS) (k : Nat) (c : Int) (s : Int) : Prop := c < (stateR ((S.rs k).take (S.sn k))).1 ∧ ∀ v, RecT.a ⟨s, c, v⟩ ∉ S.rs k
/-- a vote that was proposed -/
def PS.Prop (S : PS) (x : VT) : Prop := ∃ b s : Nat, x.b = b ∧ x.slot = s ∧ S.fixed b s = true ∧ x.s = S.value b s

structure PInv (n : Nat) (S : PS) : Prop where
  vr : ∀ k, k < n → VR (S.rs k)
  sure : ∀ k, k < n → S.sn k ≤ (S.rs k).length
  kept : ∀ b k, k < n → S.said b k = true → (b : Int) ≤ (stateR ((S.rs k).take (S.sn k))).1
  recs : ∀ k, k < n → ∀ x, RecT.a x ∈ S.rs k → S.Prop x
  heard : ∀ b k, k < n → S.said b k = true → ∀ x, RecT.a x ∈ S.rs k → x.b < b → ∃ y ∈ S.vt b k, y.slot = x.slot ∧ x.b ≤ y.b
  votes : ∀ b k, k < n → S.said b k = true → ∀ y ∈ S.vt b k, y.b ≤ b ∧ S.Prop y
  unsaid : ∀ b k, S.said b k = false → S.vt b k = []
  few : ∀ b k, n ≤ k → S.said b k = false
  took : ∀ b s k, k < n → S.took b s k = true → S.fixed b s = true ∧ RecT.a ⟨s, b, S.value b s⟩ ∈ (S.rs k).take (S.sn k)
  safe : ∀ b s : Nat, S.fixed b s = true → ∀ c : Nat, c < b → (S.fixed c s = true ∧ S.value c s = S.value b s) ∨ ∃ q, Maj n q ∧ ∀ k, k < n → q k = true → S.Never k c s
  chosen : ∀ s, S.is s = true → ∃ b, Maj n (S.took b s) ∧ S.chosen s = S.value b s
  low : ∀ b s, S.fixed b s = true → s < 4

/-- an acceptor's log moved on: what was sure is there, what is there was there, or is a record that was proposed, by the promise -/
theorem PInv.moved {n : Nat} {S : PS} (h : PInv n S) (k0 : Nat) (hk0 : k0 < n) (l : List RecT) (m : Nat) (hv : VR l) (hm : m ≤ l.length) (hp : (stateR ((S.rs k0).take (S.sn k0))).1 ≤ (stateR (l.take m)).1) (hs : ∀ r ∈ (S.rs k0).take (S.sn k0), r ∈ l.take m)
    (hr : ∀ x, RecT.a x ∈ l → RecT.a x ∈ S.rs k0 ∨ (S.Prop x ∧ (stateR ((S.rs k0).take (S.sn k0))).1 ≤ x.b)) :
    PInv n { S with rs := fun k => if k = k0 then l else S.rs k, sn := fun k => if k = k0 then m else S.sn k } := by
  refine ⟨fun k hk => ?_, fun k hk => ?_, fun b k hk hb => ?_, fun k hk x hx => ?_, fun b k hk hb x hx hlt => ?_, h.votes, h.unsaid, h.few, fun b s k hk ht => ?_, fun b s hf c hc => ?_, h.chosen, h.low⟩
  · by_cases e : k = k0
    · simp only [e, if_true]; exact hv
    · simp only [e, if_false]; exact h.vr k hk
  · by_cases e : k = k0
    · simp only [e, if_true]; exact hm
    · simp only [e, if_false]; exact h.sure k hk
  · have h1 := h.kept b k hk hb
    by_cases e : k = k0
    · subst e; simp only [if_true]; exact Int.le_trans h1 hp
    · simp only [e, if_false]; exact h1
  · by_cases e : k = k0
    · subst e
      simp only [if_true] at hx
      rcases hr x hx with h1 | h1
      · exact h.recs k hk x h1
      · exact h1.1
    · simp only [e, if_false] at hx
      exact h.recs k hk x hx
  · by_cases e : k = k0
    · subst e
      simp only [if_true] at hx
      rcases hr x hx with h1 | ⟨-, h1⟩
      · exact h.heard b k hk hb x h1 hlt
      · have := h.kept b k hk hb
        omega
    · simp only [e, if_false] at hx
      exact h.heard b k hk hb x hx hlt
  · obtain ⟨h1, h2⟩ := h.took b s k hk ht
    refine ⟨h1, ?_⟩
    by_cases e : k = k0
    · subst e; simp only [if_true]; exact hs _ h2
    · simp only [e, if_false]; exact h2
  · rcases h.safe b s hf c hc with h1 | ⟨q, hq, h1⟩
    · exact .inl h1
    · refine .inr ⟨q, hq, fun k hk hqk => ?_⟩
      obtain ⟨h2, h3⟩ := h1 k hk hqk
      by_cases e : k = k0
      · subst e
        refine ⟨?_, fun v hv => ?_⟩
        · show (c : Int) < (stateR ((if k = k then l else S.rs k).take (if k = k then m else S.sn k))).1
          simp only [if_true]
          omega
        · have hv' : RecT.a ⟨s, c, v⟩ ∈ l := by simpa using hv
          rcases hr _ hv' with h4 | ⟨-, h4⟩
          · exact h3 v h4
          · simp only at h4; omega
      · refine ⟨?_, fun v hv => ?_⟩
        · show (c : Int) < (stateR ((if k = k0 then l else S.rs k).take (if k = k0 then m else S.sn k))).1
          simp only [e, if_false]
          exact h2
        · have hv' : RecT.a ⟨s, c, v⟩ ∈ S.rs k := by simpa [e] using hv
          exact h3 v hv'

/-- a promise was heard -/
theorem PInv.hear {n : Nat} {S : PS} (h : PInv n S) (b0 k0 : Nat) (hk0 : k0 < n) (hsure : S.sn k0 = (S.rs k0).length) (hp : (stateR (S.rs k0)).1 = b0) (hn : S.said b0 k0 = false) :
    PInv n { S with said := fun b k => if b = b0 ∧ k = k0 then true else S.said b k, vt := fun b k => if b = b0 ∧ k = k0 then (stateR (S.rs k0)).2 else S.vt b k } := by
  have hd : (S.rs k0).take (S.sn k0) = S.rs k0 := by rw [hsure, List.take_length]
  refine ⟨h.vr, h.sure, fun b k hk hb => ?_, h.recs, fun b k hk hb x hx hlt => ?_, fun b k hk hb y hy => ?_, fun b k hb => ?_, fun b k hk => ?_, h.took, h.safe, h.chosen, h.low⟩
  · by_cases e : b = b0 ∧ k = k0
    · obtain ⟨rfl, rfl⟩ := e
      show (b : Int) ≤ (stateR ((S.rs k).take (S.sn k))).1
      rw [hd, hp]
      exact Int.le_refl _
    · simp only [e, if_false] at hb
      exact h.kept b k hk hb
  · by_cases e : b = b0 ∧ k = k0
    · obtain ⟨rfl, rfl⟩ := e
      simp only [and_self, if_true]
      exact rec_state (h.vr k hk) hx
    · simp only [e, if_false] at hb ⊢
      exact h.heard b k hk hb x hx hlt
  · by_cases e : b = b0 ∧ k = k0
    · obtain ⟨rfl, rfl⟩ := e
      simp only [and_self, if_true] at hy
      have hg := (h.vr k hk).good
      refine ⟨?_, h.recs k hk y (state_rec _ _ rfl y hy)⟩
      have := hg.le y hy
      rw [hp] at this
      exact this
    · simp only [e, if_false] at hb hy
      exact h.votes b k hk hb y hy
  · by_cases e : b = b0 ∧ k = k0
    · simp [e] at hb
    · simp only [e, if_false] at hb ⊢
      exact h.unsaid b k hb
  · by_cases e : b = b0 ∧ k = k0
    · omega
    · simp only [e, if_false]
      exact h.few b k hk

/-- what was picked of votes: a greatest, where there is one -/
theorem pick_best {l : List VT} {s : Int} : (∀ x ∈ l, x.slot ≠ s) ∧ getK VT.slot (pickF l) s = none ∨ ∃ y, getK VT.slot (pickF l) s = some y ∧ y ∈ l ∧ y.slot = s ∧ ∀ x ∈ l, x.slot = s → x.b ≤ y.b := by
  obtain ⟨h1, h2, h3⟩ := pick_inv l.length l rfl
  cases hg : getK VT.slot (pickF l) s with
  | none =>
    refine .inl ⟨fun x hx e => ?_, rfl⟩
    obtain ⟨o, ho⟩ := h2 x hx
    rw [e, hg] at ho
    cases ho
  | some y =>
    obtain ⟨j, hj, hb⟩ := h3 s y hg
    have hs := (getK_some VT.slot hg).2
    refine .inr ⟨y, rfl, List.mem_of_getElem? hj, hs, fun x hx hxs => ?_⟩
    obtain ⟨i, hi⟩ := List.getElem?_of_mem hx
    have := hb i x y (List.getElem?_eq_some_iff.1 hi).1 hi hj
    unfold Beats at this
    by_cases hlt : y.b < x.b
    · exact absurd ⟨by rw [hxs, hs], .inl hlt⟩ this
    · omega

/-- a proposal: the value of the greatest vote that was heard, or one's own -/
theorem PInv.fix {n : Nat} {S : PS} (h : PInv n S) (b0 s0 : Nat) (hf : S.fixed b0 s0 = false) (hs4 : s0 < 4) (hm : Maj n (S.said b0)) (v own : ByteArray) (l : List VT) (hl : ∀ y, y ∈ l ↔ ∃ k, k < n ∧ y ∈ S.vt b0 k)
    (hv : v = match getK VT.slot (pickF l) s0 with | some y => y.s | none => own) :
    PInv n { S with fixed := fun b s => if b = b0 ∧ s = s0 then true else S.fixed b s, value := fun b s => if b = b0 ∧ s = s0 then v else S.value b s } := by
  have hne : ∀ b s, S.fixed b s = true → ¬ (b = b0 ∧ s = s0) := by
    rintro b s hb ⟨rfl, rfl⟩
    rw [hf] at hb; cases hb
  have hval : ∀ b s, S.fixed b s = true → (if b = b0 ∧ s = s0 then v else S.value b s) = S.value b s := fun b s hb => if_neg (hne b s hb)
  have hprop : ∀ x, S.Prop x → PS.Prop { S with fixed := fun b s => if b = b0 ∧ s = s0 then true else S.fixed b s, value := fun b s => if b = b0 ∧ s = s0 then v else S.value b s } x := by
    rintro x ⟨b, s, h1, h2, h3, h4⟩
    refine ⟨b, s, h1, h2, ?_, ?_⟩
    · show (if b = b0 ∧ s = s0 then true else S.fixed b s) = true
      rw [if_neg (hne b s h3)]; exact h3
    · show x.s = (if b = b0 ∧ s = s0 then v else S.value b s)
      rw [hval b s h3]; exact h4
  have hfx : ∀ b s, S.fixed b s = true → (if b = b0 ∧ s = s0 then true else S.fixed b s) = true := fun b s hb => by rw [if_neg (hne b s hb)]; exact hb
  refine ⟨h.vr, h.sure, h.kept, fun k hk x hx => hprop x (h.recs k hk x hx), h.heard, fun b k hk hb y hy => ⟨(h.votes b k hk hb y hy).1, hprop y (h.votes b k hk hb y hy).2⟩, h.unsaid, h.few, fun b s k hk ht => ?_, fun b s hb c hc => ?_, fun s hs => ?_, fun b s hb => by
    by_cases e : b = b0 ∧ s = s0
    · rw [e.2]; exact hs4
    · simp only [e, if_false] at hb
      exact h.low b s hb⟩
  · obtain ⟨h1, h2⟩ := h.took b s k hk ht
    refine ⟨hfx b s h1, ?_⟩
    show RecT.a ⟨s, b, (if b = b0 ∧ s = s0 then v else S.value b s)⟩ ∈ _
    rw [hval b s h1]
    exact h2
  · by_cases e : b = b0 ∧ s = s0
    · obtain ⟨rfl, rfl⟩ := e
      have hcb : ¬ (c = b ∧ s = s) := fun e => by omega
      -- none of those who promised accepted in this slot by a ballot that is greater than what was picked
      have never : (∀ y, y ∈ l → y.slot = s → y.b < c) → ∃ q, Maj n q ∧ ∀ k, k < n → q k = true → S.Never k c s := by
        intro hy
        refine ⟨S.said b, hm, fun k hk hq => ⟨?_, fun u hu => ?_⟩⟩
        · have := h.kept b k hk hq
          omega
        · obtain ⟨y, hy1, hy2, hy3⟩ := h.heard b k hk hq _ hu (by simp only; omega)
          have := hy y ((hl y).2 ⟨k, hk, hy1⟩) hy2
          simp only at hy3
          omega
      rcases pick_best (l := l) (s := (s : Int)) with ⟨h1, h2⟩ | ⟨y, h1, h2, h3, h4⟩
      · exact .inr (never (fun y hy hs => absurd hs (h1 y hy)))
      · rw [h1] at hv
        simp only at hv
        obtain ⟨k, hk, hyk⟩ := (hl y).1 h2
        have hsk : S.said b k = true := by
          cases hs : S.said b k with
          | true => rfl
          | false => rw [h.unsaid b k hs] at hyk; cases hyk
        obtain ⟨hyb, c1, s1, e1, e2, e3, e4⟩ := h.votes b k hk hsk y hyk
        have es : s1 = s := by omega
        subst es
        have hc1 : c1 ≠ b := fun e => by subst e; rw [hf] at e3; cases e3
        rcases Nat.lt_trichotomy c c1 with hlt | heq | hgt
        · rcases h.safe c1 s1 e3 c hlt with ⟨g1, g2⟩ | g
          · left
            refine ⟨hfx c s1 g1, ?_⟩
            show (if c = b ∧ s1 = s1 then v else S.value c s1) = (if b = b ∧ s1 = s1 then v else S.value b s1)
            rw [if_neg hcb, if_pos ⟨rfl, rfl⟩, g2, hv, e4]
          · exact .inr g
        · left
          subst heq
          refine ⟨hfx c s1 e3, ?_⟩
          show (if c = b ∧ s1 = s1 then v else S.value c s1) = (if b = b ∧ s1 = s1 then v else S.value b s1)
          rw [if_neg hcb, if_pos ⟨rfl, rfl⟩, hv, e4]
        · exact .inr (never (fun z hz hzs => by have := h4 z hz hzs; omega))
    · simp only [e, if_false] at hb
      rcases h.safe b s hb c hc with ⟨g1, g2⟩ | g
      · left
        refine ⟨hfx c s g1, ?_⟩
        show (if c = b0 ∧ s = s0 then v else S.value c s) = (if b = b0 ∧ s = s0 then v else S.value b s)
        rw [hval c s g1, if_neg e, g2]
      · exact .inr g
  · obtain ⟨b, h1, h2⟩ := h.chosen s hs
    refine ⟨b, h1, ?_⟩
    obtain ⟨k, hk, h3, -⟩ := h1.meet h1
    have h4 := (h.took b s k hk h3).1
    show S.chosen s = (if b = b0 ∧ s = s0 then v else S.value b s)
    rw [hval b s h4]
    exact h2

/-- a vote was taken -/
theorem PInv.take {n : Nat} {S : PS} (h : PInv n S) (b0 s0 k0 : Nat) (hf : S.fixed b0 s0 = true) (hr : RecT.a ⟨s0, b0, S.value b0 s0⟩ ∈ (S.rs k0).take (S.sn k0)) :
    PInv n { S with took := fun b s k => if b = b0 ∧ s = s0 ∧ k = k0 then true else S.took b s k } := by
  refine ⟨h.vr, h.sure, h.kept, h.recs, h.heard, h.votes, h.unsaid, h.few, fun b s k hk ht => ?_, h.safe, fun s hs => ?_, h.low⟩
  · by_cases e : b = b0 ∧ s = s0 ∧ k = k0
    · obtain ⟨rfl, rfl, rfl⟩ := e
      exact ⟨hf, hr⟩
    · simp only [e, if_false] at ht
      exact h.took b s k hk ht
  · obtain ⟨b, h1, h2⟩ := h.chosen s hs
    refine ⟨b, h1.mono (fun k _ hk => ?_), h2⟩
    show (if b = b0 ∧ s = s0 ∧ k = k0 then true else S.took b s k) = true
    split
    · rfl
    · exact hk

/-- no two values are chosen -/
theorem PInv.agree {n : Nat} {S : PS} (h : PInv n S) {b c s : Nat} (hb : Maj n (S.took b s)) (hc : Maj n (S.took c s)) : S.value b s = S.value c s := by
  have key : ∀ b c : Nat, Maj n (S.took b s) → Maj n (S.took c s) → c < b → S.value b s = S.value c s := by
    intro b c hb hc hlt
    obtain ⟨k, hk, hk1, -⟩ := hb.meet hb
    rcases h.safe b s (h.took b s k hk hk1).1 c hlt with ⟨-, h1⟩ | ⟨q, hq, h1⟩
    · exact h1.symm
    · obtain ⟨k2, hk2, hk3, hk4⟩ := hq.meet hc
      obtain ⟨-, h2⟩ := h1 k2 hk2 hk3
      exact absurd (List.mem_of_mem_take (h.took c s k2 hk2 hk4).2) (h2 _)
  rcases Nat.lt_trichotomy b c with hlt | rfl | hgt
  · exact (key c b hc hb hlt).symm
  · rfl
  · exact key b c hb hc hgt
theorem PInv.choose {n : Nat} {S : PS} (h : PInv n S) (b0 s0 : Nat) (hm : Maj n (S.took b0 s0)) :
    (S.is s0 = true → S.chosen s0 = S.value b0 s0) ∧ PInv n { S with is := fun s => if s = s0 then true else S.is s, chosen := fun s => if s = s0 then S.value b0 s0 else S.chosen s } := by
  refine ⟨fun hi => ?_, h.vr, h.sure, h.kept, h.recs, h.heard, h.votes, h.unsaid, h.few, h.took, h.safe, fun s hs => ?_, h.low⟩
  · obtain ⟨b, h1, h2⟩ := h.chosen s0 hi
    rw [h2]
    exact h.agree h1 hm
  · by_cases e : s = s0
    · subst e
      exact ⟨b0, hm, by simp⟩
    · simp only [e, if_false] at hs ⊢
      exact h.chosen s hs
end Go.Proofs.Ytfmcfcjcmmlmfaa
