/-
  Layer 4 (conv): products one by one, by the code and by the document.
-/
import Derived.Test.YtobailigphmopaaWConv2
import Derived.Test.YtobailigphmopaaConvQ
namespace Go.Proofs.Ytobailigphmopaa
open Go.RowKit BG
attribute [local go_sem ↓] Go.wp_at_zero Go.wp_at_succ run_min_at run_max_at
set_option linter.unusedVariables false

theorem Ans.none {l : List Int} {er : Int} {w w' : World} (hl : l = []) (hk : Kept w w') : Ans l er w (.returned (.tuple #[.slice none 0 0, .int .i64 er])) w' := by
  subst hl; exact ⟨Option.none, 0, rfl, Rd.nil _ _ _, hk, by simp, by omega⟩
theorem pval_nil {xs ys : List Int} (h : xs.length = 0 ∨ ys.length = 0) : pval xs ys = [] ∧ perr xs ys = 0 := by
  refine ⟨?_, ?_⟩
  · unfold pval; rw [if_pos (by omega)]
  · unfold perr; rw [if_pos h]
theorem pval_err {xs ys : List Int} (h1 : xs.length ≠ 0) (h2 : ys.length ≠ 0) : perr xs ys = cerr xs.length ys.length (greatest xs) (greatest ys) := by
  unfold perr; rw [if_neg (by omega)]
theorem pval_bad {xs ys : List Int} (h : perr xs ys ≠ 0) : pval xs ys = [] := by unfold pval; rw [if_pos (.inr (.inr h))]
theorem pval_good {xs ys : List Int} (h1 : xs.length ≠ 0) (h2 : ys.length ≠ 0) (h : perr xs ys = 0) : pval xs ys = prodv (nth xs) (nth ys) xs.length ys.length := by unfold pval; rw [if_neg (by omega)]
theorem wrap_mod (n : Int) : IntKind.u64.wrap n = n % 18446744073709551616 := IntKind.wrap_u64 n
theorem beq_zero (n : Nat) (h : n ≠ 0) : ((n : Int) == 0) = false := by rw [beq_eq_false_iff_ne]; omega
theorem rowRd {k : IntKind} {e : TypeId} {base n g c : Nat} {w : World} {xs : List Int} (h : w.ownsRow base e 1 (.slice (some ⟨g, 0, none⟩) n c) n (xs.map (Value.int k))) (hn : xs.length = n) : Rd k w (some ⟨g, 0, none⟩) xs := by
  have hO : Own k e base w (.slice (some ⟨g, 0, none⟩) n c) xs := by
    unfold Own
    rw [hn]
    exact h
  obtain ⟨A', c', e, _, _, r⟩ := hO.rd
  simp only [Value.slice.injEq] at e
  rw [← e.1] at r
  exact r
end Go.Proofs.Ytobailigphmopaa
