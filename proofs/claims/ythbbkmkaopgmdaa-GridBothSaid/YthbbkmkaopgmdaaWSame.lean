/-
  beagleref01.Same by its contract.
-/
import Derived.Test.YthbbkmkaopgmdaaSl
namespace Go.Proofs.Ythbbkmkaopgmdaa
open Go.RowKit
attribute [local go_sem ↓] Go.wp_at_zero Go.wp_at_succ
set_option linter.unusedVariables false
/-- The two lists are the same. -/
def sameL (xs ys : List Int) : Bool := decide (xs = ys)
theorem sameL_true {xs ys : List Int} (hl : xs.length = ys.length) (h : ∀ j, j < xs.length → nth xs j = nth ys j) : sameL xs ys = true := by
  simp only [sameL, decide_eq_true_eq]; exact nth_ext hl h
theorem sameL_false {xs ys : List Int} {j : Nat} (h : nth xs j ≠ nth ys j) : sameL xs ys = false := by
  simp only [sameL, decide_eq_false_iff_not]; exact fun e => h (by rw [e])
end Go.Proofs.Ythbbkmkaopgmdaa
