/- Words for walks: what comes behind under a name; results in memory. -/
import Derived.WalkKit
import Derived.WalkSpells
import Derived.WalkLawsBesides
import Derived.Handy
import Derived.Test.YtfmcfcjcmmlmfaaMem
namespace Go.Proofs.Ytfmcfcjcmmlmfaa
open Go Go.RowKit
set_option linter.unusedVariables false

/-- what comes behind, under a name -/
theorem wp_hide {P : Program} {c : Code} {Q : Exit → Act → World → Prop} {a : Act} {w : World} (h : ∀ R : Exit → Act → World → Prop, Hid (∀ e a w, Q e a w → R e a w) → c.wp P R a w) : c.wp P Q a w :=
  h Q (hid fun _ _ _ h => h)

/-- the end of a round whose rest is under a name -/
theorem hide_end {A : Act → World → Prop} {Q R : Exit → Act → World → Prop} {a : Act} {w : World} (H : Hid (∀ e a w, Exit.then A Q e a w → R e a w)) (h : A a w) : R .normal a w := H.out .normal a w h

theorem results_cell1 {fn : Func} {p : Tmp} {ty : TypeId} (h : fn.results = #[.cell p ty]) (tmps : Array Value) (P : Program) (w : World) :
    (results fn tmps).run P w = ((asAddr (tmps.getD p undef)).run P w).andThen fun a w₁ => (loadVar ty a).run P w₁ := by
  simp only [results, h]
  simp [Sem.run_bind, Result.andThen]
theorem results_cell2 {fn : Func} {p : Tmp} {ty : TypeId} {q : Tmp} (h : fn.results = #[.cell p ty, .tmp q]) (tmps : Array Value) (P : Program) (w : World) :
    (results fn tmps).run P w = (((asAddr (tmps.getD p undef)).run P w).andThen fun a w₁ => (loadVar ty a).run P w₁).andThen fun v w₁ => .ok (.tuple #[v, tmps.getD q undef]) w₁ := by
  simp only [results, h]
  simp [Sem.run_bind, Result.andThen]
  generalize Sem.run P (asAddr (tmps[p]?.getD undef)) w = r
  cases r with
  | ok a w1 => rfl
  | halt h w => rfl
end Go.Proofs.Ytfmcfcjcmmlmfaa
