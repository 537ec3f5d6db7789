/- The walk over disk.Crash. -/
import Derived.Test.YtfmcfcjcmmlmfaaDiskW
import Derived.Deep.QuietTactic
import Derived.BigQuiet
namespace Go.Proofs.Ytfmcfcjcmmlmfaa
set_option maxRecDepth 100000
open Go Go.RowKit
set_option linter.unusedVariables false

/-- how many bytes of a log stay -/
def cut (ks : List Int) (j ln sr : Nat) : Nat := if h : j < ks.length then sr + (min (max ks[j] 0) ((ln : Int) - sr)).toNat else sr
theorem cut_le (ks : List Int) (j ln sr : Nat) (h : sr ≤ ln) : sr ≤ cut ks j ln sr ∧ cut ks j ln sr ≤ ln := by
  unfold cut; split <;> omega

/-- the logs' cells: of each log the slice and how much is sure -/
structure LogCells (cur : Array Value) (n : Nat) (ad : Nat → Option Addr) (ln cp sr : Nat → Nat) : Prop where
  slice : ∀ j, j < n → cur[j * 2]? = some (.slice (ad j) (ln j) (cp j))
  sure : ∀ j, j < n → cur[j * 2 + 1]? = some (.int .i64 (sr j))

def CrashInv (lb n : Nat) (ad : Nat → Option Addr) (ln cp sr nl : Nat → Nat) (w0 : World) (k : Nat) (w : World) : Prop :=
  Chg (One lb) w0 w ∧ ∃ cur, Blk w lb cur 102 ∧ LogCells cur n ad (fun j => if j < k then nl j else ln j) (fun j => if j < k then nl j else cp j) (fun j => if j < k then nl j else sr j)

theorem cut_eq (ks : List Int) (j ln sr : Nat) (h : j < ks.length) (hs : sr ≤ ln) :
    ((sr : Int) + if (ln : Int) - sr < (if ks[j] < 0 then 0 else ks[j]) then (ln : Int) - sr else if ks[j] < 0 then 0 else ks[j]) = ((cut ks j ln sr : Nat) : Int) := by
  unfold cut; rw [dif_pos h]
  by_cases h1 : ks[j] < 0
  · simp only [h1, if_true]; rw [if_neg (by omega)]; omega
  · simp only [h1, if_false]; split <;> omega
theorem cut_out (ks : List Int) (j ln sr : Nat) (h : ¬ j < ks.length) : cut ks j ln sr = sr := by unfold cut; rw [dif_neg h]

theorem crash_step {lb n k m nq : Nat} {ad : Nat → Option Addr} {ln cp sr nl : Nat → Nat} {w0 w : World} (h : CrashInv lb n ad ln cp sr nl w0 k w) (hk : k < n) (hm : nl k = m) :
    CrashInv lb n ad ln cp sr nl w0 (k + 1) (((w.drewN nq).setCell ⟨lb, k * 2, none⟩ (.slice (ad k) m m)).setCell ⟨lb, k * 2 + 1, none⟩ (.int .i64 m)) := by
  obtain ⟨hC, cu, hB, h1, h2⟩ := h
  refine ⟨((hC.drewN nq).setCell ⟨lb, k * 2, none⟩ _ (fun _ => rfl)).setCell ⟨lb, k * 2 + 1, none⟩ _ (fun _ => rfl), _, (Blk.set (w := w.drewN nq) hB _ _).set _ _, ?_, ?_⟩
  · intro j hj
    have hs := (Array.getElem?_eq_some_iff.1 (h1 k hk)).1
    rw [Array.getElem?_setIfInBounds_ne (by omega)]
    by_cases e : j = k
    · subst e; rw [Array.getElem?_setIfInBounds_self_of_lt hs]; simp [hm]
    · rw [Array.getElem?_setIfInBounds_ne (by omega), h1 j hj]
      by_cases h : j < k
      · simp [h, show j < k + 1 by omega]
      · simp [h, show ¬ j < k + 1 by omega]
  · intro j hj
    have hs := (Array.getElem?_eq_some_iff.1 (h2 k hk)).1
    by_cases e : j = k
    · subst e; rw [Array.getElem?_setIfInBounds_self_of_lt (by simpa using hs)]; simp [hm]
    · rw [Array.getElem?_setIfInBounds_ne (by omega), Array.getElem?_setIfInBounds_ne (by omega), h2 j hj]
      by_cases h : j < k
      · simp [h, show j < k + 1 by omega]
      · simp [h, show ¬ j < k + 1 by omega]

set_option maxRecDepth 100000 in
set_option maxHeartbeats 1000000 in
theorem crash_ok (d lb n c : Nat) (acts armed : Int) (keep kv : Value) (ks : List Int) (cur : Array Value) (ad : Nat → Option Addr) (ln cp sr : Nat → Nat) (w : World)
    (hd : Blk w d #[.slice (some ⟨lb, 0, none⟩) n c, .int .i64 acts, .bool false, .int .i64 armed, keep] 80)
    (hlb : Blk w lb cur 102) (hdl : d ≠ lb) (hn : n ≤ 4194304)
    (hk : Row w 3 1 kv ks.length (ks.map (.int .i64))) (hkd : kv.ownBlock ≠ some d ∧ kv.ownBlock ≠ some lb)
    (hL : LogCells cur n ad ln cp sr) (hb : ∀ j, j < n → sr j ≤ ln j ∧ ln j ≤ cp j ∧ cp j ≤ maxLen ∧ (ad j = none → cp j = 0)) :
    Calls Try.prog 19 #[.pointer (some ⟨d, 0, none⟩), kv] w fun e w' => e = .returned (.tuple #[]) ∧
      Blk w' d #[.slice (some ⟨lb, 0, none⟩) n c, .int .i64 acts, .bool true, .int .i64 0, keep] 80 ∧ Chg (fun j => j = d ∨ j = lb) w w' ∧
      ∃ cur', Blk w' lb cur' 102 ∧ LogCells cur' n ad (fun j => cut ks j (ln j) (sr j)) (fun j => cut ks j (ln j) (sr j)) (fun j => cut ks j (ln j) (sr j)) := by
  obtain ⟨ka, kc, rfl, hkc, hkm, hkx⟩ := hk.cells
  have hch : Chg (fun j => j = d ∨ j = lb) w ((w.setCell ⟨d, 2, none⟩ (.bool true)).setCell ⟨d, 3, none⟩ (.int .i64 0)) := ((Chg.refl _ w).setCell _ _ (fun _ => .inl rfl)).setCell _ _ (fun _ => .inl rfl)
  have hd2 := (hd.set 2 (.bool true)).set 3 (.int .i64 0)
  have hl2 := (hlb.setOther (p := ⟨d, 2, none⟩) (fun e => hdl e.symm) (.bool true)).setOther (p := ⟨d, 3, none⟩) (fun e => hdl e.symm) (.int .i64 0)
  have hk2 := hk.kept hch (fun k hk h => by rcases h with h | h; exact hkd.1 (h ▸ hk); exact hkd.2 (h ▸ hk))
  obtain ⟨c0, c1, c2, c3, -, hf⟩ := hd.c5
  clear hkx
  go_enter Try.func19, Try.ntmps19
  go_wp2_with fail
  have hdlt := hd2.lt
  have hlt := hl2.lt
  generalize ((w.setCell ⟨d, 2, none⟩ (.bool true)).setCell ⟨d, 3, none⟩ (.int .i64 0)) = W0 at hch hd2 hl2 hk2 hdlt hlt ⊢
  clear c0 c1 c2 c3 hf
  go_loopw [22] (fun v wr => ∃ k : Nat, k ≤ n ∧ v = .int .i64 k ∧ CrashInv lb n ad ln cp sr (fun j => cut ks j (ln j) (sr j)) W0 k wr) (fun v _ => n - (intOf v).toNat)
  case atStart => exact ⟨0, Nat.zero_le _, rfl, Chg.refl _ _, cur, hl2, ⟨by simpa using hL.slice, by simpa using hL.sure⟩⟩
  case round =>
    obtain ⟨k, hkn, rfl, hI⟩ := hrel
    have HI := hid hI
    obtain ⟨hC, cu, hB, hLc⟩ := hI
    have h0 := (hd2.kept hC hdl).c5.1
    by_cases hlt2 : k < n
    · have hs := hB.cell _ (hLc.slice k hlt2)
      have hu := hB.cell _ (hLc.sure k hlt2)
      have hfz := hB.free
      simp only [Nat.lt_irrefl, if_false] at hs hu
      obtain ⟨b1, b2, b3, b4⟩ := hb k hlt2
      unfold maxLen at b3
      by_cases hj : k < ks.length
      · have Hc := hid (cut_eq ks k (ln k) (sr k) hj b1)
        obtain ⟨kb, ko, hka, hcell⟩ : ∃ kb ko, ka = some ⟨kb, ko, none⟩ ∧ wr.cell? ⟨kb, ko + k, none⟩ = some (.int .i64 ks[k]) := by
          obtain ⟨a', c', he, _, _, hx⟩ := (hk2.kept hC (fun g hg h => hkd.2 (h ▸ hg))).cells
          cases he
          exact hx k _ (by simp [hj])
        subst hka
        have hkI : (k : Int) < ks.length := by omega
        clear hLc hk hk2 hkd hL hb hd2 hB
        go_wp2_with fail
        go_quiet (fail)
        go_wp2_with fail
        rw [Hc.out, Int.toNat_natCast]
        exact ⟨⟨k + 1, by omega, by go_num, crash_step HI.out hlt2 rfl⟩, by simp [intOf]; omega⟩
      · have Hc := hid (cut_out ks k (ln k) (sr k) hj)
        have hkI : ¬ (k : Int) < ks.length := by omega
        clear hLc hk hk2 hkd hL hb hd2 hB
        go_wp2_with fail
        have := crash_step (nq := 0) HI.out hlt2 Hc.out
        exact ⟨⟨k + 1, by omega, by go_num, this⟩, by simp [intOf]; omega⟩
    · have hkn' : k = n := by omega
      have hd3 := hd2.kept hC hdl
      clear hk hk2 hkd hL hb hd2
      go_wp2_with fail
      go_end0
      subst hkn'
      refine ⟨rfl, hd3, hch.trans hC (fun _ _ h => .inr h), cu, hB, ⟨fun j hj => ?_, fun j hj => ?_⟩⟩
      · have := hLc.slice j hj; simpa [hj] using this
      · have := hLc.sure j hj; simpa [hj] using this
end Go.Proofs.Ytfmcfcjcmmlmfaa
