/- They agree: an accepted value (plain). -/
import Derived.Test.YtfmcfcjcmmlmfaaAgreeP
import Derived.Test.YtfmcfcjcmmlmfaaLogS
import Derived.Test.YtfmcfcjcmmlmfaaRefPickP
namespace Go.Proofs.Ytfmcfcjcmmlmfaa
open Go Go.RowKit Go.Maps
set_option linter.unusedVariables false

/-- what is proposed, by what was picked -/
def scanV (s : Int) (own : ByteArray) (l : List VT) : ByteArray := l.foldl (fun c y => if y.slot = s then y.s else c) own
theorem scanV_snoc (s : Int) (own : ByteArray) (l : List VT) (y : VT) : scanV s own (l ++ [y]) = if y.slot = s then y.s else scanV s own l := by simp [scanV]
theorem scanV_none (s : Int) : ∀ (l : List VT) (own : ByteArray), (∀ y ∈ l, y.slot ≠ s) → scanV s own l = own
  | [], own, _ => rfl
  | x :: r, own, h => by
    show scanV s (if x.slot = s then x.s else own) r = own
    rw [if_neg (h x (by simp)), scanV_none s r own (fun y hy => h y (by simp [hy]))]
theorem scanV_get (s : Int) : ∀ (l : List VT) (own : ByteArray), Rising VT.slot l → scanV s own l = match getK VT.slot l s with | some y => y.s | none => own
  | [], own, _ => rfl
  | x :: r, own, h => by
    obtain ⟨h1, h2⟩ := List.pairwise_cons.1 h
    show scanV s (if x.slot = s then x.s else own) r = _
    by_cases e : x.slot = s
    · rw [if_pos e, scanV_none s r _ (fun y hy e2 => by have := h1 y hy; omega)]
      have : getK VT.slot (x :: r) s = some x := by simp [getK, e]
      rw [this]
    · rw [if_neg e, scanV_get s r own h2]
      have : getK VT.slot (x :: r) s = getK VT.slot r s := by simp [getK, e]
      rw [this]

theorem cntB_few {n : Nat} {q : Nat → Bool} (h : ∀ k, n ≤ k → q k = false) (d : Nat) : cntB (n + d) q = cntB n q := by
  induction d with
  | zero => rfl
  | succ d ih =>
    have e : n + (d + 1) = (n + d) + 1 := by omega
    rw [e, cntB_succ, ih, if_neg (by rw [h (n + d) (by omega)]; simp)]
    omega
theorem PInv.maj {n b : Nat} {S : PS} (h : PInv n S) (hn : n ≤ 5) (hm : n < 2 * cntB 5 (S.said b)) : Maj n (S.said b) := by
  have := cntB_few (fun k hk => h.few b k hk) (5 - n)
  rw [show n + (5 - n) = 5 by omega] at this
  unfold Maj
  omega
/-- the five lists -/
def fiveL (S : PS) (b : Nat) : List (List VT) := [S.vt b 0, S.vt b 1, S.vt b 2, S.vt b 3, S.vt b 4]
theorem PInv.five {n b : Nat} {S : PS} (h : PInv n S) (hn : n ≤ 5) (y : VT) : y ∈ (fiveL S b).flatten ↔ ∃ k, k < n ∧ y ∈ S.vt b k := by
  have hu : ∀ k, n ≤ k → S.vt b k = [] := fun k hk => h.unsaid b k (h.few b k hk)
  constructor
  · intro hy
    have : ∃ k, k < 5 ∧ y ∈ S.vt b k := by
      simp only [fiveL, List.flatten_cons, List.flatten_nil, List.mem_append, List.append_nil] at hy
      rcases hy with hy | hy | hy | hy | hy
      · exact ⟨0, by omega, hy⟩
      · exact ⟨1, by omega, hy⟩
      · exact ⟨2, by omega, hy⟩
      · exact ⟨3, by omega, hy⟩
      · exact ⟨4, by omega, hy⟩
    obtain ⟨k, hk, hy⟩ := this
    by_cases hkn : k < n
    · exact ⟨k, hkn, hy⟩
    · rw [hu k (by omega)] at hy; cases hy
  · rintro ⟨k, hk, hy⟩
    simp only [fiveL, List.flatten_cons, List.flatten_nil, List.mem_append, List.append_nil]
    have : k = 0 ∨ k = 1 ∨ k = 2 ∨ k = 3 ∨ k = 4 := by omega
    rcases this with rfl | rfl | rfl | rfl | rfl
    · exact .inl hy
    · exact .inr (.inl hy)
    · exact .inr (.inr (.inl hy))
    · exact .inr (.inr (.inr (.inl hy)))
    · exact .inr (.inr (.inr (.inr hy)))
theorem PInv.slots {n b : Nat} {S : PS} (h : PInv n S) (hn : n ≤ 5) (y : VT) (hy : y ∈ (fiveL S b).flatten) : i64r y.slot := by
  obtain ⟨k, hk, hyk⟩ := (h.five hn y).1 hy
  have hs : S.said b k = true := by
    cases e : S.said b k with
    | true => rfl
    | false => rw [h.unsaid b k e] at hyk; cases hyk
  obtain ⟨-, c, t, -, h2, h3, -⟩ := h.votes b k hk hs y hyk
  have := h.low c t h3
  unfold i64r
  omega
theorem PInv.fix5 {n : Nat} {S : PS} (h : PInv n S) (hn : n ≤ 5) (b s : Nat) (hf : S.fixed b s = false) (hs4 : s < 4) (hm : n < 2 * cntB 5 (S.said b)) (own : ByteArray) :
    PInv n { S with fixed := fun c t => if c = b ∧ t = s then true else S.fixed c t, value := fun c t => if c = b ∧ t = s then scanV s own (pickF (fiveL S b).flatten) else S.value c t } :=
  h.fix b s hf hs4 (h.maj hn hm) _ own (fiveL S b).flatten (fun y => h.five hn y) (scanV_get _ _ _ (pickF_rising _))

theorem acc_code {p : Int} {m : List VT} {x : VT} (h : accCodeP p m x = 0) : whyF p x.b = 0 := by
  unfold accCodeP at h
  split at h
  · omega
  · split at h
    · omega
    · split at h
      · omega
      · split at h
        · exact h
        · rename_i hw; exact Decidable.not_not.1 hw
theorem accL_vr {rs : List RecT} (h : VR rs) (x : VT) : VR (accL rs x) := by
  unfold accL
  split
  · rename_i hc; exact h.snoc hc
  · exact h
theorem accL_take {rs : List RecT} {x : VT} {k : Nat} (h : k ≤ rs.length) : (accL rs x).take k = rs.take k := by
  obtain ⟨t, ht⟩ := accL_pre rs x
  rw [ht, List.take_append_of_le_length h]
theorem accL_rec {rs : List RecT} {x y : VT} (h : RecT.a y ∈ accL rs x) : RecT.a y ∈ rs ∨ (y = x ∧ whyF (stateR rs).1 x.b = 0) := by
  unfold accL at h
  split at h
  · rename_i hc
    rcases List.mem_append.1 h with h | h
    · exact .inl h
    · simp at h
      exact .inr ⟨h, acc_code hc.1⟩
  · exact .inl h
/-- what was accepted is a record -/
theorem accL_in {rs : List RecT} {x : VT} (h : accCodeP (stateR rs).1 (stateR rs).2 x = 0) : RecT.a x ∈ accL rs x := by
  unfold accL
  by_cases hh : accHasP (stateR rs).2 x = false
  · rw [if_pos ⟨h, hh⟩]; simp
  · rw [if_neg (fun e => hh e.2)]
    have hh : accHasP (stateR rs).2 x = true := by simpa using hh
    unfold accHasP at hh
    cases hg : getK VT.slot (stateR rs).2 x.slot with
    | none => rw [hg] at hh; cases hh
    | some o =>
      rw [hg] at hh
      simp only [decide_eq_true_eq] at hh
      obtain ⟨h1, h2⟩ := getK_some VT.slot hg
      have he : o = x := by
        unfold accCodeP at h
        split at h
        · omega
        · split at h
          · omega
          · split at h
            · omega
            · split at h
              · omega
              · rw [hg] at h
                simp only at h
                have hs : o.s = x.s := by
                  by_cases e : o.s = x.s
                  · exact e
                  · rw [if_pos ⟨hh, e⟩] at h; omega
                obtain ⟨a1, a2, a3⟩ := o
                obtain ⟨b1, b2, b3⟩ := x
                simp only at h2 hh hs
                rw [h2, hh, hs]
      rw [← he]
      exact state_rec _ _ rfl _ h1

/-- an accept, not sure yet, and sure -/
theorem PInv.acc {n : Nat} {S : PS} (h : PInv n S) (k : Nat) (hk : k < n) (b s : Nat) (hf : S.fixed b s = true) :
    PInv n { S with rs := fun q => if q = k then accL (S.rs k) ⟨s, b, S.value b s⟩ else S.rs q, sn := fun q => if q = k then S.sn k else S.sn q } := by
  have hv := h.vr k hk
  have hs := h.sure k hk
  refine h.moved k hk _ _ (accL_vr hv _) (Nat.le_trans hs (accL_len _ _).1) (by rw [accL_take hs]; exact Int.le_refl _) (fun r hr => by rw [accL_take hs]; exact hr) (fun x hx => ?_)
  rcases accL_rec hx with h1 | ⟨rfl, h1⟩
  · exact .inl h1
  · refine .inr ⟨⟨b, s, rfl, rfl, hf, rfl⟩, ?_⟩
    have h2 := ((why_iff _ _).1 h1).2
    have h3 := prom_take hv (S.sn k)
    exact Int.le_trans h3 h2
theorem PInv.accS {n : Nat} {S : PS} (h : PInv n S) (k : Nat) (hk : k < n) (b s : Nat) (hf : S.fixed b s = true) :
    PInv n { S with rs := fun q => if q = k then accL (S.rs k) ⟨s, b, S.value b s⟩ else S.rs q, sn := fun q => if q = k then (accL (S.rs k) ⟨s, b, S.value b s⟩).length else S.sn q } := by
  have hv := h.vr k hk
  have hs := h.sure k hk
  have hv2 := accL_vr hv ⟨s, b, S.value b s⟩
  refine h.moved k hk _ _ hv2 (Nat.le_refl _) ?_ (fun r hr => ?_) (fun x hx => ?_)
  · rw [List.take_length, ← accL_take (x := ⟨s, b, S.value b s⟩) hs]
    exact prom_take hv2 _
  · rw [List.take_length]
    rw [← accL_take (x := ⟨s, b, S.value b s⟩) hs] at hr
    exact List.mem_of_mem_take hr
  · rcases accL_rec hx with h1 | ⟨rfl, h1⟩
    · exact .inl h1
    · refine .inr ⟨⟨b, s, rfl, rfl, hf, rfl⟩, ?_⟩
      have h2 := ((why_iff _ _).1 h1).2
      have h3 := prom_take hv (S.sn k)
      exact Int.le_trans h3 h2
end Go.Proofs.Ytfmcfcjcmmlmfaa
