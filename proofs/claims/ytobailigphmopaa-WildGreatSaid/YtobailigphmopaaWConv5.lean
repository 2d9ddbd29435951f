/-
  Layer 4 (conv): rows along rows, by the document.
-/
import Derived.Test.YtobailigphmopaaWConv4
namespace Go.Proofs.Ytobailigphmopaa
open Go.RowKit BG
attribute [local go_sem ↓] Go.wp_at_zero Go.wp_at_succ run_min_at run_max_at
set_option linter.unusedVariables false

def slT (p t : Nat → Int) (i j : Nat) : Int := sl p t j i % 18446744073709551616
theorem slT_bd (p t : Nat → Int) (i j : Nat) : 0 ≤ slT p t i j ∧ slT p t i j ≤ 18446744073709551615 := by unfold slT; omega
theorem slT_step (p t : Nat → Int) (i j : Nat) : (slT p t i j + p j * t (i + j) % 18446744073709551616) % 18446744073709551616 = slT p t i (j + 1) := by
  unfold slT
  rw [← Int.add_emod]
  rfl
theorem corrv_nil {ps ts : List Int} (h : ps.length = 0 ∨ ts.length < ps.length) : corrv ps ts = [] ∧ corrErr ps ts = 0 := by
  refine ⟨?_, ?_⟩
  · unfold corrv; rw [if_pos (by omega)]
  · unfold corrErr; rw [if_pos h]
theorem corrv_bad {ps ts : List Int} (h : corrErr ps ts ≠ 0) : corrv ps ts = [] := by unfold corrv; rw [if_pos (.inr (.inr h))]
theorem corr_err {ps ts : List Int} (h0 : ps.length ≠ 0) (h1 : ¬ ts.length < ps.length) : corrErr ps ts = cerr ps.length ts.length (greatest ps) (greatest ts) := by unfold corrErr; rw [if_neg (by omega)]
theorem corrv_good {ps ts : List Int} (h0 : ps.length ≠ 0) (h1 : ¬ ts.length < ps.length) (h : corrErr ps ts = 0) : corrv ps ts = slidev (nth ps) (nth ts) ps.length ts.length := by unfold corrv; rw [if_neg (by rw [h]; omega)]
end Go.Proofs.Ytobailigphmopaa
