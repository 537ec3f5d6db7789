/- Walk over the law's few. -/
import Derived.Test.YtfmcfcjcmmlmfaaAwakeW
namespace Go.Proofs.Ytfmcfcjcmmlmfaa
open Go Go.RowKit Go.Maps
set_option linter.unusedVariables false

/-- what comes behind, under a name -/
theorem wp_hide {P : Program} {c : Code} {Q : Exit → Act → World → Prop} {a : Act} {w : World} (h : ∀ R : Exit → Act → World → Prop, Hid (∀ e a w, Q e a w → R e a w) → c.wp P R a w) : c.wp P Q a w :=
  h Q (hid fun _ _ _ h => h)

/-- the end of a round whose rest is under a name -/
theorem hide_end {A : Act → World → Prop} {Q R : Exit → Act → World → Prop} {a : Act} {w : World} (H : Hid (∀ e a w, Exit.then A Q e a w → R e a w)) (h : A a w) : R .normal a w := H.out .normal a w h

def fewS (v : ByteArray) : ByteArray := if 1100 < v.size then v.extract 0 1100 else v

theorem results_cell1 {fn : Func} {p : Tmp} {ty : TypeId} (h : fn.results = #[.cell p ty]) (tmps : Array Value) (P : Program) (w : World) :
    (results fn tmps).run P w = ((asAddr (tmps.getD p undef)).run P w).andThen fun a w₁ => (loadVar ty a).run P w₁ := by
  simp only [results, h]
  simp [Sem.run_bind, Result.andThen]

theorem few_ok (w : World) (k n s b : Int) (v : ByteArray) (ka : Option Addr) (kn kc : Nat) (hk : kn ≤ kc) :
    Calls Try.prog 13 #[.agg #[.int .i64 k, .int .i64 n, .int .i64 s, .int .i64 b, .string v, .slice ka kn kc]] w fun e w' =>
      ∃ kn' : Nat, e = .returned (.agg #[.int .i64 k, .int .i64 n, .int .i64 s, .int .i64 b, .string (fewS v), .slice ka kn' kc]) ∧ Chg No w w' := by
  go_enter Try.func13, Try.ntmps13
  go_wp2_with fail
  all_goals
    refine bodyPost_ret (v := .agg #[.int .i64 k, .int .i64 n, .int .i64 s, .int .i64 b, .string (fewS v), .slice ka (if 4 < kn then 4 else kn) kc]) (by rw [results_cell1 rfl]; go_simp; exact ⟨by unfold fewS; first | rw [if_pos (by omega)] | rw [if_neg (by omega)], by omega⟩) rfl ?_
    exact ⟨_, rfl, ((Chg.refl No w).alloc _).alloc _⟩
end Go.Proofs.Ytfmcfcjcmmlmfaa
