/- The memory of BallotAgrees: the beginning. -/
import Derived.Test.YtfmcfcjcmmlmfaaAgreeM
namespace Go.Proofs.Ytfmcfcjcmmlmfaa
open Go Go.RowKit Go.Maps
set_option linter.unusedVariables false

structure AgStart (w0 : World) (i db al : Nat) (f : Fam) (w : World) : Prop where
  acc : ∀ k, k < i → AccAt w (f.ab k) (f.wb k) (f.mb k) (f.d k) 0 (f.F k) (f.A k)
  log : ∀ k, k < i → LogIs (f.A k) 0 [] 0
  disj : ∀ j k, j < i → k < i → j ≠ k → ∀ q, f.own j q → ¬ f.own k q
  off : ∀ k, k < i → ∀ q, f.own k q → q ≠ db ∧ q ≠ al
  new : ∀ k, k < i → ∀ q, f.own k q → w0.heap.size ≤ q
  ord : w0.heap.size ≤ db ∧ db < al
  dc : ∃ cs, Blk w db cs 57 ∧ cs.size = 5 ∧ ∀ k, k < i → cs[k]? = some (.pointer (some ⟨f.d k, 0, none⟩))
  ac : ∃ cs, Blk w al cs 58 ∧ cs.size = 5 ∧ ∀ k, k < i → cs[k]? = some (.pointer (some ⟨f.ab k, 0, none⟩))
  chg : Chg No w0 w

theorem AgStart.same {w0 w w' : World} {i db al : Nat} {f : Fam} (h : AgStart w0 i db al f w) (k : Chg No w w') : AgStart w0 i db al f w' := by
  obtain ⟨dcs, hd, hd2⟩ := h.dc
  obtain ⟨acs, ha, ha2⟩ := h.ac
  exact ⟨fun j hj => (h.acc j hj).kept k (fun _ _ h => h), h.log, h.disj, h.off, h.new, h.ord, ⟨dcs, hd.kept k id, hd2⟩, ⟨acs, ha.kept k id, ha2⟩, h.chg.same k⟩

theorem AgStart.step {w0 w w1 w2 : World} {i db al d ab wb mb : Nat} {f : Fam} {F F2 : Nat → Prop} {A : AccS} (h : AgStart w0 i db al f w) (hi : i < 5) (h1 : Chg No w w1) (hF : ∀ q, F q → w.heap.size ≤ q) (hA : AccAt w2 ab wb mb d 0 F2 A) (hL : LogIs A 0 [] 0) (hU : Upd w1 F w2 (accF F2 ab wb mb)) :
    AgStart w0 (i + 1) db al { ab := fun k => if k = i then ab else f.ab k, wb := fun k => if k = i then wb else f.wb k, mb := fun k => if k = i then mb else f.mb k, d := fun k => if k = i then d else f.d k, F := fun k => if k = i then F2 else f.F k, A := fun k => if k = i then A else f.A k }
      ((w2.setCell ⟨db, i, none⟩ (.pointer (some ⟨d, 0, none⟩))).setCell ⟨al, i, none⟩ (.pointer (some ⟨ab, 0, none⟩))) := by
  obtain ⟨dcs, hd, hds, hd2⟩ := h.dc
  obtain ⟨acs, ha, has, ha2⟩ := h.ac
  obtain ⟨o1, o2⟩ := h.ord
  have hs1 := h1.size
  have hdl := hd.lt
  have hal := ha.lt
  have hnew : ∀ q, accF F2 ab wb mb q → w.heap.size ≤ q := fun q hq => by
    rcases hU.foot q hq with hq | hq
    · exact hF q hq
    · omega
  have hc2 : Chg No w w2 := h1.trans hU.chg (fun q hq hf => by have := hF q hf; omega)
  have hc3 : Chg (fun q => q = db ∨ q = al) w2 ((w2.setCell ⟨db, i, none⟩ (.pointer (some ⟨d, 0, none⟩))).setCell ⟨al, i, none⟩ (.pointer (some ⟨ab, 0, none⟩))) :=
    ((Chg.refl (fun q => q = db ∨ q = al) w2).setCell _ _ (fun _ => .inl rfl)).setCell _ _ (fun _ => .inr rfl)
  have hown : ∀ k q, k < i → accF (f.F k) (f.ab k) (f.wb k) (f.mb k) q → q < w.heap.size := fun k q hk hq => (h.acc k hk).fin q hq
  refine ⟨fun k hk => ?_, fun k hk => ?_, fun j k hj hk hjk q hq hq2 => ?_, fun k hk q hq => ?_, fun k hk q hq => ?_, h.ord, ?_, ?_, ?_⟩
  · by_cases e : k = i
    · subst e
      simp only [if_true]
      exact hA.kept hc3 (fun q hq e => by have := hnew q hq; omega)
    · simp only [e, if_false]
      exact ((h.acc k (by omega)).kept hc2 (fun _ _ h => h)).kept hc3 (fun q hq e2 => by have := h.off k (by omega) q hq; omega)
  · by_cases e : k = i
    · subst e; simp only [if_true]; exact hL
    · simp only [e, if_false]; exact h.log k (by omega)
  · by_cases ej : j = i
    · subst ej
      have hkj : k ≠ j := fun e => hjk e.symm
      simp only [Fam.own, if_true] at hq
      simp only [Fam.own, hkj, if_false] at hq2
      have := hnew q hq
      have := hown k q (by omega) hq2
      omega
    · by_cases ek : k = i
      · subst ek
        simp only [Fam.own, ej, if_false] at hq
        simp only [Fam.own, if_true] at hq2
        have := hnew q hq2
        have := hown j q (by omega) hq
        omega
      · simp only [Fam.own, ej, if_false] at hq
        simp only [Fam.own, ek, if_false] at hq2
        exact h.disj j k (by omega) (by omega) hjk q hq hq2
  · by_cases e : k = i
    · subst e
      simp only [Fam.own, if_true] at hq
      have := hnew q hq
      omega
    · simp only [Fam.own, e, if_false] at hq
      exact h.off k (by omega) q hq
  · by_cases e : k = i
    · subst e
      simp only [Fam.own, if_true] at hq
      have := hnew q hq
      omega
    · simp only [Fam.own, e, if_false] at hq
      exact h.new k (by omega) q hq
  · refine ⟨_, ((hd.kept hc2 id).set i _).setOther (by simp; omega) _, by rw [Array.size_setIfInBounds]; exact hds, fun k hk => ?_⟩
    rw [set_at (by omega)]
    by_cases e : k = i
    · rw [if_pos e]; simp only [e, if_true]
    · rw [if_neg e]; simp only [e, if_false]; exact hd2 k (by omega)
  · refine ⟨_, ((ha.kept hc2 id).setOther (by simp; omega) _).set i _, by rw [Array.size_setIfInBounds]; exact has, fun k hk => ?_⟩
    rw [set_at (by omega)]
    by_cases e : k = i
    · rw [if_pos e]; simp only [e, if_true]
    · rw [if_neg e]; simp only [e, if_false]; exact ha2 k (by omega)
  · exact (h.chg.same hc2).trans hc3 (fun q hq e => by omega)

/-- nothing has happened yet -/
def PS.start : PS := ⟨fun _ => [], fun _ => 0, fun _ _ => false, fun _ _ => [], fun _ _ => false, fun _ _ => ByteArray.empty, fun _ _ _ => false, fun _ => false, fun _ => ByteArray.empty⟩
theorem PInv.start (n : Nat) : PInv n PS.start :=
  ⟨fun _ _ => VR.nil, fun _ _ => Nat.le_refl _, (fun _ _ _ h => absurd h (by simp [PS.start])), (fun _ _ _ h => absurd h (by simp [PS.start])), (fun _ _ _ h => absurd h (by simp [PS.start])), (fun _ _ _ h => absurd h (by simp [PS.start])), fun _ _ _ => rfl, fun _ _ _ => rfl, (fun _ _ _ _ h => absurd h (by simp [PS.start])), (fun _ _ h => absurd h (by simp [PS.start])), (fun _ h => absurd h (by simp [PS.start])), (fun _ _ h => absurd h (by simp [PS.start]))⟩

def zH (i : Nat) : Value := if i % 18 < 5 then .bool false else if i % 18 < 10 then .slice none 0 0 else if i % 18 < 14 then .bool false else .string ByteArray.empty
def zHeard : Array Value := ((List.range 162).map zH).toArray
def zTook : Array Value := ((List.range 180).map fun _ => Value.bool false).toArray
theorem zHeard_c : HeardC zHeard PS.start (fun _ _ => .slice none 0 0) := by
  have hg : ∀ i, i < 162 → zHeard[i]? = some (zH i) := fun i hi => by simp [zHeard, hi]
  refine ⟨by simp [zHeard], fun b k h1 h2 => ?_, fun b k h1 h2 => ?_, fun b s h1 h2 => ?_, fun b s h1 h2 => ?_⟩
  · rw [hg _ (by omega)]; unfold zH; rw [if_pos (by omega)]; rfl
  · rw [hg _ (by omega)]; unfold zH; rw [if_neg (by omega), if_pos (by omega)]
  · rw [hg _ (by omega)]; unfold zH; rw [if_neg (by omega), if_neg (by omega), if_pos (by omega)]; rfl
  · rw [hg _ (by omega)]; unfold zH; rw [if_neg (by omega), if_neg (by omega), if_neg (by omega)]; rfl
theorem zTook_c : TookC zTook PS.start :=
  ⟨by simp [zTook], fun b s k h1 h2 h3 => by simp [zTook, show b * 20 + s * 5 + k < 180 by omega, PS.start]⟩
theorem zChosen_c : ChosenC #[.string ByteArray.empty, .string ByteArray.empty, .string ByteArray.empty, .string ByteArray.empty] #[.bool false, .bool false, .bool false, .bool false] PS.start := by
  refine ⟨⟨rfl, rfl⟩, fun s hs => ?_, fun s hs => ?_⟩
  · match s, hs with
    | 0, _ => rfl
    | 1, _ => rfl
    | 2, _ => rfl
    | 3, _ => rfl
  · match s, hs with
    | 0, _ => rfl
    | 1, _ => rfl
    | 2, _ => rfl
    | 3, _ => rfl

/-- the law's loop begins -/
theorem AgStart.begin {w0 w : World} {n db al : Nat} {f : Fam} (h : AgStart w0 n db al f w) (h5 : n ≤ 5) :
    AgMem w0 n 0 ⟨db, al, w.heap.size, w.heap.size + 1, w.heap.size + 1 + 1, w.heap.size + 1 + 1 + 1⟩ f f.ab (fun _ _ => .slice none 0 0) PS.start
      ((((w.alloc (.cells zHeard 65)).alloc (.cells zTook 67)).alloc (.cells #[.string ByteArray.empty, .string ByteArray.empty, .string ByteArray.empty, .string ByteArray.empty] 62)).alloc (.cells #[.bool false, .bool false, .bool false, .bool false] 61)) := by
  obtain ⟨dcs, hd, hds, hd2⟩ := h.dc
  obtain ⟨acs, ha, has, ha2⟩ := h.ac
  have hdl := hd.lt
  have hal := ha.lt
  have hfin : ∀ k q, k < n → f.own k q → q < w.heap.size := fun k q hk hq => (h.acc k hk).fin q hq
  have h1 := Blk.new w zHeard 65
  have k1 : Chg No w (w.alloc (.cells zHeard 65)) := (Chg.refl _ _).alloc _
  have s1 : (w.alloc (.cells zHeard 65)).heap.size = w.heap.size + 1 := by simp
  generalize (w.alloc (.cells zHeard 65)) = w1 at *
  have h2 := Blk.new w1 zTook 67
  have k2 : Chg No w1 (w1.alloc (.cells zTook 67)) := (Chg.refl _ _).alloc _
  have s2 : (w1.alloc (.cells zTook 67)).heap.size = w1.heap.size + 1 := by simp
  generalize (w1.alloc (.cells zTook 67)) = w2 at *
  have h3 := Blk.new w2 #[.string ByteArray.empty, .string ByteArray.empty, .string ByteArray.empty, .string ByteArray.empty] 62
  have k3 : Chg No w2 (w2.alloc (.cells #[.string ByteArray.empty, .string ByteArray.empty, .string ByteArray.empty, .string ByteArray.empty] 62)) := (Chg.refl _ _).alloc _
  have s3 : (w2.alloc (.cells #[.string ByteArray.empty, .string ByteArray.empty, .string ByteArray.empty, .string ByteArray.empty] 62)).heap.size = w2.heap.size + 1 := by simp
  generalize (w2.alloc (.cells #[.string ByteArray.empty, .string ByteArray.empty, .string ByteArray.empty, .string ByteArray.empty] 62)) = w3 at *
  have h4 := Blk.new w3 #[.bool false, .bool false, .bool false, .bool false] 61
  have k4 : Chg No w3 (w3.alloc (.cells #[.bool false, .bool false, .bool false, .bool false] 61)) := (Chg.refl _ _).alloc _
  generalize (w3.alloc (.cells #[.bool false, .bool false, .bool false, .bool false] 61)) = w4 at *
  rw [s3] at h4
  rw [s2] at h4 h3
  rw [s1] at h4 h3 h2
  have kall := ((k1.same k2).same k3).same k4
  have hh := h.same kall
  obtain ⟨dcs', hd', hds', hd2'⟩ := hh.dc
  obtain ⟨acs', ha', has', ha2'⟩ := hh.ac
  obtain ⟨o1, o2⟩ := h.ord
  refine ⟨hh.acc, fun k hk => h.log k hk, fun k hk => Nat.le_refl _, h.disj, fun k hk q hq hB => ?_, h.new, ⟨o2, by show al < w.heap.size; exact hal, by simp, by simp, by simp⟩, o1, ⟨dcs', hd', hd2'⟩, ⟨acs', ha', has', ha2'⟩, ⟨_, ((h1.kept k2 id).kept k3 id).kept k4 id, zHeard_c⟩, ⟨_, (h2.kept k3 id).kept k4 id, zTook_c⟩, ⟨_, _, h3.kept k4 id, h4, zChosen_c⟩,
    fun b k _ _ => Row.nil _ _ _, fun b k _ _ => Nat.le_refl _, fun b k _ _ q hq => by simp [Value.ownBlock] at hq, hh.chg, h5⟩
  have hq1 := h.off k hk q hq
  have hq2 := hfin k q hk hq
  unfold AgB.has at hB
  simp only at hB
  omega
end Go.Proofs.Ytfmcfcjcmmlmfaa
