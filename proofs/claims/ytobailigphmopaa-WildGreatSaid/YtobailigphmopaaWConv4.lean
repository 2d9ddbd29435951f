/-
  Layer 4 (conv): products by the document.
-/
import Derived.Test.YtobailigphmopaaWConv3
namespace Go.Proofs.Ytobailigphmopaa
open Go.RowKit BG
attribute [local go_sem ↓] Go.wp_at_zero Go.wp_at_succ run_min_at run_max_at
set_option linter.unusedVariables false

def prT (a b : Nat → Int) (lb i j : Nat) : Int := (sumTo j fun j' => if j' ≤ i ∧ i - j' < lb then a j' * b (i - j') else 0) % 18446744073709551616
theorem prT_bd (a b : Nat → Int) (lb i j : Nat) : 0 ≤ prT a b lb i j ∧ prT a b lb i j ≤ 18446744073709551615 := by unfold prT; omega
theorem prT_zero (a b : Nat → Int) (lb i : Nat) : prT a b lb i 0 = 0 := rfl
theorem prT_yes (a b : Nat → Int) {lb i j : Nat} (h : j ≤ i ∧ i - j < lb) : (prT a b lb i j + a j * b (i - j) % 18446744073709551616) % 18446744073709551616 = prT a b lb i (j + 1) := by
  have e : (sumTo (j + 1) fun j' => if j' ≤ i ∧ i - j' < lb then a j' * b (i - j') else 0) = (sumTo j fun j' => if j' ≤ i ∧ i - j' < lb then a j' * b (i - j') else 0) + a j * b (i - j) := by
    show _ + (if j ≤ i ∧ i - j < lb then a j * b (i - j) else 0) = _
    rw [if_pos h]
  unfold prT
  rw [e, ← Int.add_emod]
theorem prT_no (a b : Nat → Int) {lb i j : Nat} (h : ¬ (j ≤ i ∧ i - j < lb)) : prT a b lb i (j + 1) = prT a b lb i j := by
  have e : (sumTo (j + 1) fun j' => if j' ≤ i ∧ i - j' < lb then a j' * b (i - j') else 0) = sumTo j fun j' => if j' ≤ i ∧ i - j' < lb then a j' * b (i - j') else 0 := by
    show _ + (if j ≤ i ∧ i - j < lb then a j * b (i - j) else 0) = _
    rw [if_neg h, Int.add_zero]
  unfold prT
  rw [e]
theorem prT_all (a b : Nat → Int) (la lb i : Nat) : prT a b lb i la = cs a b la lb i % 18446744073709551616 := rfl
end Go.Proofs.Ytobailigphmopaa
