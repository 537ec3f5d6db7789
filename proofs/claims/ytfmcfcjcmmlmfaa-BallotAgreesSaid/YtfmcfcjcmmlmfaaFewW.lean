/- Walk over the law's few. -/
import Derived.Test.YtfmcfcjcmmlmfaaAwakeW
import Derived.Test.YtfmcfcjcmmlmfaaHide
namespace Go.Proofs.Ytfmcfcjcmmlmfaa
open Go Go.RowKit Go.Maps
set_option linter.unusedVariables false

def fewS (v : ByteArray) : ByteArray := if 1100 < v.size then v.extract 0 1100 else v

theorem few_ok (w : World) (k n s b : Int) (v : ByteArray) (ka : Option Addr) (kn kc : Nat) (hk : kn ≤ kc) :
    Calls Try.prog 13 #[.agg #[.int .i64 k, .int .i64 n, .int .i64 s, .int .i64 b, .string v, .slice ka kn kc]] w fun e w' =>
      ∃ kn' : Nat, e = .returned (.agg #[.int .i64 k, .int .i64 n, .int .i64 s, .int .i64 b, .string (fewS v), .slice ka kn' kc]) ∧ Chg No w w' := by
  go_enter Try.func13, Try.ntmps13
  go_wp2_with fail
  all_goals
    refine bodyPost_ret (v := .agg #[.int .i64 k, .int .i64 n, .int .i64 s, .int .i64 b, .string (fewS v), .slice ka (if 4 < kn then 4 else kn) kc]) (by rw [results_cell1 rfl]; go_simp; exact ⟨by unfold fewS; first | rw [if_pos (by omega)] | rw [if_neg (by omega)], by omega⟩) rfl ?_
    exact ⟨_, rfl, ((Chg.refl No w).alloc _).alloc _⟩
end Go.Proofs.Ytfmcfcjcmmlmfaa
