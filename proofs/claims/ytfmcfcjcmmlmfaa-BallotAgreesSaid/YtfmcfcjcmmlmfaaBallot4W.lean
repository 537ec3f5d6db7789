/- Walks over ballot: Accept. -/
import Derived.Test.YtfmcfcjcmmlmfaaBallot3W
namespace Go.Proofs.Ytfmcfcjcmmlmfaa
open Go Go.RowKit Go.Maps
set_option linter.unusedVariables false

def accCode (A : AccS) (x : VT) : Int :=
  if whyF A.prom x.b = 231 then 231
  else if ¬ (1 ≤ x.slot ∧ x.slot ≤ 1000) then 232
  else if 1000 < x.s.size then 233
  else if ¬ whyF A.prom x.b = 0 then whyF A.prom x.b
  else match getK VT.slot A.votes x.slot with
    | some o => if o.b = x.b ∧ o.s ≠ x.s then 235 else 0
    | none => 0
/-- is it accepted already? -/
def accHas (A : AccS) (x : VT) : Bool :=
  match getK VT.slot A.votes x.slot with
  | some o => decide (o.b = x.b)
  | none => false
def AccS.acpt (A : AccS) (i : Nat) (x : VT) : AccS :=
  if accCode A x = 0 ∧ accHas A x = false then { A.laid i (recA x) with prom := max A.prom x.b, votes := putK VT.slot x A.votes } else A

theorem putK_len (x : VT) (m : List VT) : (putK VT.slot x m).length ≤ m.length + 1 := by
  unfold putK
  have h : ∀ l : List VT, (insK VT.slot x l).length = l.length + 1 := by
    intro l
    induction l with
    | nil => rfl
    | cons y r ih => unfold insK; split <;> simp [ih]
  rw [h]
  have := List.length_filter_le (fun y => !decide (y.slot = x.slot)) m
  omega

theorem setVote {w w' : World} {ab wb mb d i : Nat} {F : Nat → Prop} {A : AccS} {x : VT} (h : AccAt w ab wb mb d i F A) (hx : i64r x.slot) (hf : A.votes.length < 1000000) (hon : AccOn w' ab wb mb d i (max A.prom x.b) (putK VT.slot x A.votes) A.a A.s) (hc : Chg (fun j => j = ab ∨ j = mb) w w') :
    AccPost w ab wb mb d i F { A with prom := max A.prom x.b, votes := putK VT.slot x A.votes } w' := by
  refine ⟨F, ⟨hon, h.disk.kept hc ?_, h.fa, h.fw, h.fm, h.log, h.up, h.arm, ?_, ?_⟩, hc.mono ?_, fun _ h => .inl h⟩
  · rintro j hj (rfl | rfl)
    · exact h.fa hj
    · exact h.fm hj
  · have := putK_len x A.votes
    show (putK VT.slot x A.votes).length ≤ 1000000
    omega
  · intro y hy
    rcases (mem_putK VT.slot x y A.votes).1 hy with rfl | ⟨hy, _⟩
    · exact hx
    · exact h.slots y hy
  · rintro j _ (rfl | rfl)
    · exact .inr (.inl rfl)
    · exact .inr (.inr (.inr rfl))

def VT.zero : VT := ⟨0, 0, ByteArray.empty⟩

set_option maxRecDepth 100000 in
set_option maxHeartbeats 1000000 in
theorem accept_ok (w : World) (ab wb mb d i : Nat) (F : Nat → Prop) (A : AccS) (x : VT) (h : AccAt w ab wb mb d i F A) (hl : ∀ l, A.D.logs[i]? = some l → l.1.length ≤ 4000000) (hx : i64r x.slot) (hf : A.votes.length < 1000000) :
    Calls Try.prog 16 #[.pointer (some ⟨ab, 0, none⟩), .int .i64 x.b, .int .i64 x.slot, .string x.s] w fun e w' => e = .returned (.int .i64 (accCode A x)) ∧ AccPost w ab wb mb d i F (A.acpt i x) w' := by
  obtain ⟨c0, c1, c2, hfr⟩ := h.on.head.c3
  have Hw := hid (why_ok w ab wb mb A.prom x.b h.on.head)
  have Hs := fun W => hid (slot_ok x.slot W)
  have hlk := IMap.look_ok h.on.map uInt uVoteMap (Try.zeroValue47 w) hx.wf
  have H := hid h
  have Hl := hid hl
  have Hx := hid hx
  have Hf := hid hf
  have hE : ((getK VT.slot A.votes x.slot).map VT.val).getD (.agg #[.int .i64 0, .int .i64 0, .string ⟨#[]⟩]) = ((getK VT.slot A.votes x.slot).getD VT.zero).val := by
    cases getK VT.slot A.votes x.slot <;> rfl
  rw [hE] at hlk
  have Hcode := hid (rfl : accCode A x = accCode A x)
  have HA := hid (rfl : A.acpt i x = A.acpt i x)
  have Hh : Hid (accHas A x = ((getK VT.slot A.votes x.slot).isSome && decide (((getK VT.slot A.votes x.slot).getD VT.zero).b = x.b))) := by
    unfold accHas; cases getK VT.slot A.votes x.slot <;> exact hid rfl
  have Hc : Hid (∀ (_ : whyF A.prom x.b = 0) (_ : 1 ≤ x.slot ∧ x.slot ≤ 1000) (_ : ¬ 1000 < x.s.size), accCode A x = if ((getK VT.slot A.votes x.slot).isSome && decide (((getK VT.slot A.votes x.slot).getD VT.zero).b = x.b)) = true ∧ ((getK VT.slot A.votes x.slot).getD VT.zero).s ≠ x.s then 235 else 0) := by
    refine hid fun h1 h2 h3 => ?_
    unfold accCode
    rw [if_neg (by omega), if_neg (fun h => h h2), if_neg h3, if_neg (fun h => h h1)]
    cases getK VT.slot A.votes x.slot <;> simp
  clear h hl hx hf hE Hcode HA
  generalize (getK VT.slot A.votes x.slot).getD VT.zero = o at *
  generalize (getK VT.slot A.votes x.slot).isSome = ok at *
  obtain ⟨os, ob, ov⟩ := o
  simp only [VT.val] at hlk
  go_enter Try.func16, Try.ntmps16
  go_wp2_with fail
  refine Hw.out.mono ?_
  rintro e w' ⟨rfl, rfl⟩
  go_upto_region 3 with (fail)
  have hB : Blk (w'.alloc (.cells #[.int .i64 os, .int .i64 ob, .string ov] 47)) w'.heap.size #[.int .i64 os, .int .i64 ob, .string ov] 47 := Blk.new _ _ _
  have hcA : Chg No w' (w'.alloc (.cells #[.int .i64 os, .int .i64 ob, .string ov] 47)) := (Chg.refl _ _).alloc _
  obtain ⟨b0, b1, b2, bf⟩ := hB.c3
  have HAt := hid (H.out.kept hcA (fun _ _ h => h))
  have HcA := hid hcA
  clear hB hcA c0 c1 c2 hfr hlk
  generalize (w'.alloc (.cells #[.int .i64 os, .int .i64 ob, .string ov] 47)) = W at *
  have stay : ∀ W2, Chg No W W2 → Hid (accCode A x = 0 → accHas A x = true) → AccPost w' ab wb mb d i F (A.acpt i x) W2 := by
    intro W2 hW2 hn
    have e : A.acpt i x = A := by
      unfold AccS.acpt
      by_cases h0 : accCode A x = 0
      · rw [if_neg]; rintro ⟨_, h⟩; rw [hn.out h0] at h; cases h
      · rw [if_neg]; exact fun h => h0 h.1
    rw [e]
    exact AccPost.same H.out (HcA.out.same hW2)
  have Stay := hid stay
  clear stay
  have Hy0 : Hid (whyF A.prom x.b = 231 ∨ whyF A.prom x.b = 234 ∨ (whyF A.prom x.b = 0 ∧ 1 ≤ x.b ∧ x.b ≤ 1099511627776)) := by
    refine hid ?_
    unfold whyF
    split
    · exact .inl rfl
    · rename_i h1
      have h2 : 1 ≤ x.b ∧ x.b ≤ 1099511627776 := by omega
      split
      · exact .inr (.inl rfl)
      · exact .inr (.inr ⟨rfl, h2⟩)
  have Hcode := hid (show accCode A x = _ from rfl)
  unfold accCode at Hcode
  generalize hyy : whyF A.prom x.b = y at *
  have Hyy := hid hyy
  clear hyy
  by_cases h231 : y = 231
  · have hc : accCode A x = 231 := by unfold accCode; rw [Hyy.out, if_pos h231]
    subst h231
    have HC := hid hc
    clear hc
    go_wp2_with fail
    go_ret
    exact ⟨by rw [HC.out]; rfl, Stay.out _ (.refl _ _) (hid fun h => by rw [HC.out] at h; cases h)⟩
  · have hyb : (y == 231) = false := by simpa using h231
    go_wp2_with fail
    refine (Hs W).out.mono ?_
    rintro e w2 ⟨rfl, rfl⟩
    by_cases hs : 1 ≤ x.slot ∧ x.slot ≤ 1000
    · have hsd : decide (1 ≤ x.slot ∧ x.slot ≤ 1000) = true := by simpa using hs
      rw [hsd]
      have HSl := hid hs
      clear hs hsd
      by_cases hlen : 1000 < x.s.size
      · have hc : accCode A x = 233 := by unfold accCode; rw [Hyy.out, if_neg h231, if_neg (fun h => h HSl.out), if_pos hlen]
        have HC := hid hc
        clear hc
        go_wp2_with fail
        go_ret
        exact ⟨by rw [HC.out]; rfl, Stay.out _ (.refl _ _) (hid fun h => by rw [HC.out] at h; cases h)⟩
      · by_cases hy : y = 0
        · subst hy
          have hcode := Hc.out rfl HSl.out hlen
          have HC := hid hcode
          have HLen := hid hlen
          clear hcode Hcode Hc
          have fin : ∀ (o : VT → Unit), True := fun _ => trivial
          go_upto_region 11 with (fail)
          by_cases hcase : ok = true ∧ ob = x.b
          · obtain ⟨rfl, rfl⟩ := hcase
            by_cases hov : ov = x.s
            · subst hov
              have hc : accCode A x = 0 := by rw [HC.out]; simp
              have HC2 := hid hc
              clear hc HC
              go_wp2_with fail
              go_ret
              exact ⟨by rw [HC2.out]; rfl, Stay.out _ (.refl _ _) (hid fun _ => by rw [Hh.out]; simp)⟩
            · have hc : accCode A x = 235 := by rw [HC.out]; simp [hov]
              have HC2 := hid hc
              have hov2 : (ov.toList == x.s.toList) = false := str_ne hov
              clear hc HC
              go_wp2_with fail
              go_ret
              exact ⟨by rw [HC2.out]; rfl, Stay.out _ (.refl _ _) (hid fun h => by rw [HC2.out] at h; cases h)⟩
          · have hno : (ok && decide (ob = x.b)) = false := by
              cases ok
              · rfl
              · simpa using fun h => hcase ⟨rfl, h⟩
            have hc : accCode A x = 0 := by rw [HC.out]; simp [hno]
            have hacc : A.acpt i x = { A.laid i (recA x) with prom := max A.prom x.b, votes := putK VT.slot x A.votes } := by
              unfold AccS.acpt; rw [if_pos ⟨hc, by rw [Hh.out]; exact hno⟩]
            have HL := hid (lay_state w2 _ ab wb mb d i F A (recA x) HAt.out (recA_ok x (by rcases Hy0.out with h | h | h; cases h; cases h; exact h.2) HSl.out (by omega)) (by simp [recA]) Hl.out rfl 4 rfl)
            simp only [wvCells, recA, List.flatMap_cons, List.flatMap_nil, WV.cells, List.append_nil, List.cons_append, List.nil_append] at HL
            have HC2 := hid hc
            have Hacc := hid hacc
            have hor : ok = false ∨ (ok = true ∧ ¬ ob = x.b) := by
              cases ok
              · exact .inl rfl
              · exact .inr ⟨rfl, fun h => hcase ⟨rfl, h⟩⟩
            clear hc hacc hno hcase HC
            rcases hor with rfl | ⟨rfl, hob⟩
            all_goals
              go_wp2_with fail
              refine HL.out.mono ?_
              rintro e w3 ⟨rfl, F1, hA1, hU1⟩
              have hv := hid (vote_ok w3 ab wb mb d i A.prom _ _ A.votes x hA1.on (Nat.le_of_lt Hf.out) Hx.out)
              unfold VT.val at hv
              have HA1 := hid hA1
              have HU1 := hid hU1
              clear hA1 hU1
              go_wp2_with fail
              refine hv.out.mono ?_
              rintro e w4 ⟨rfl, hon, hch⟩
              have Hon := hid hon
              have Hch := hid hch
              clear hon hch
              go_wp2_with fail
              go_ret
              refine ⟨by rw [HC2.out]; rfl, ?_⟩
              rw [Hacc.out]
              exact AccPost.trans ⟨(HcA.out.mono (fun _ _ h => h.elim)).trans HU1.out.chg (fun _ _ h => h), fun j hj => (HU1.out.foot j hj).imp id (fun h => Nat.le_trans HcA.out.size h)⟩ (setVote HA1.out Hx.out Hf.out Hon.out Hch.out)
        · have hc : accCode A x = y := by unfold accCode; rw [Hyy.out, if_neg h231, if_neg (fun h => h HSl.out), if_neg hlen, if_pos hy]
          have HC := hid hc
          have hy2 : (y == 0) = false := by simpa using hy
          clear hc
          go_wp2_with fail
          go_ret
          exact ⟨by rw [HC.out]; rfl, Stay.out _ (.refl _ _) (hid fun h => by rw [HC.out] at h; exact absurd h hy)⟩
    · have hsd : decide (1 ≤ x.slot ∧ x.slot ≤ 1000) = false := by simpa using hs
      have hc : accCode A x = 232 := by unfold accCode; rw [Hyy.out, if_neg h231, if_pos hs]
      have HC := hid hc
      rw [hsd]
      clear hc hs hsd
      go_wp2_with fail
      go_ret
      exact ⟨by rw [HC.out]; rfl, Stay.out _ (.refl _ _) (hid fun h => by rw [HC.out] at h; cases h)⟩
end Go.Proofs.Ytfmcfcjcmmlmfaa
