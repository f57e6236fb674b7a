/- Who uses more has no lesser share: the choice stays. -/
import Derived.Test.YtdhifabhjlbjiaaMD5
set_option linter.all false
namespace Go.Idl
set_option linter.unusedSimpArgs false
set_option linter.unusedVariables false

theorem check_wt {l : List Q} (hc : check l = 0) {c : Nat} (h : c < l.length) : 1 ≤ l[c].Wt ∧ l[c].Wt ≤ 1048576 := by
  have := args_mem (check_args hc) _ (List.getElem_mem h)
  simp only [okQ, Bool.and_eq_true, decide_eq_true_eq] at this
  omega
end Go.Idl
