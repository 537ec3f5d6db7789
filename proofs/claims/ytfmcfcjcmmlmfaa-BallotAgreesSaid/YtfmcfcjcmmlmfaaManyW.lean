/- BallotAgrees: how many promised. -/
import Derived.Test.YtfmcfcjcmmlmfaaAgreeM
namespace Go.Proofs.Ytfmcfcjcmmlmfaa
open Go Go.RowKit Go.Maps
set_option linter.unusedVariables false

set_option maxRecDepth 100000 in
theorem many_ok (w : World) (hb o : Nat) (q : Nat → Bool) (hc : ∀ k, k < 5 → w.cell? ⟨hb, o + k, none⟩ = some (.bool (q k))) :
    Calls Try.prog 21 #[.pointer (some ⟨hb, o, none⟩)] w fun e w' => e = .returned (.int .i64 (cntB 5 q)) ∧ w' = w := by
  have Hc := hid hc
  clear hc
  go_enter Try.func21, Try.ntmps21
  go_wp2_with fail
  go_loop [3, 4] (fun v3 v4 => ∃ i : Nat, v4 = .int .i64 i ∧ i ≤ 5 ∧ v3 = .int .i64 (cntB i q)) (fun _ v4 => 5 - (intOf v4).toNat)
  case atStart => exact ⟨0, rfl, by omega, rfl⟩
  case round =>
    obtain ⟨i, rfl, hi, rfl⟩ := hrel
    have hle := cntB_le i q
    by_cases hlt : i < 5
    · have h0 := Hc.out i hlt
      have hs := cntB_succ i q
      have Hs := hid hs
      have hIi : (i : Int) < 5 := by omega
      have hI0 : (0 : Int) ≤ (i : Int) := by omega
      clear hs
      cases hq : q i with
      | true =>
        rw [hq] at h0 Hs
        clear hq
        go_wp2_with fail
        go_round
        case rel => exact ⟨i + 1, by go_num, by omega, by rw [Hs.out]; simp⟩
        case measure => simp [intOf]; omega
      | false =>
        rw [hq] at h0 Hs
        clear hq
        go_wp2_with fail
        go_round
        case rel => exact ⟨i + 1, by go_num, by omega, by rw [Hs.out]; simp⟩
        case measure => simp [intOf]; omega
    · have h5 : i = 5 := by omega
      subst h5
      go_wp2_with fail
      go_ret
      exact ⟨rfl, rfl⟩
end Go.Proofs.Ytfmcfcjcmmlmfaa
