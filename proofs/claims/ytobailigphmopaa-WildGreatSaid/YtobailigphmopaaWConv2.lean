/-
  Layer 4 (conv): what is amiss with two rows.
-/
import Derived.Test.YtobailigphmopaaWConv1
namespace Go.Proofs.Ytobailigphmopaa
open Go.RowKit BG
attribute [local go_sem ↓] Go.wp_at_zero Go.wp_at_succ run_min_at run_max_at
set_option linter.unusedVariables false

theorem cerr_of (la lb : Nat) (x y : Int) (h : ¬ 4097 < la + lb) : cerr la lb x y = if ovr x y then 40 else if ovr (x * y) ((min la lb : Nat) : Int) then 40 else 0 := by
  unfold cerr ovr
  rw [if_neg h]
  by_cases h1 : x ≠ 0 ∧ 18446744073709551615 / x < y
  · simp [h1]
  · by_cases h2 : x * y ≠ 0 ∧ 18446744073709551615 / (x * y) < ((min la lb : Nat) : Int)
    · rw [if_neg h1, if_pos h2]; simp [h1, h2]
    · rw [if_neg h1, if_neg h2]; simp only [h1, h2, decide_false]; simp
theorem min_cast (a b : Nat) : min (a : Int) (b : Int) = ((min a b : Nat) : Int) := by omega
theorem ovr_no {x y : Int} (hx : 0 ≤ x) (hy : 0 ≤ y) (h : ovr x y = false) : x * y ≤ 18446744073709551615 := over_no hx hy (of_decide_eq_false h)
end Go.Proofs.Ytobailigphmopaa
