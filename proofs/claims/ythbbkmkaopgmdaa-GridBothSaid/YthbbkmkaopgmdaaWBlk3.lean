/-
  Layer 5 (block): the best size.
-/
import Derived.Test.YthbbkmkaopgmdaaWBlk2
namespace Go.Proofs.Ythbbkmkaopgmdaa
open Go.RowKit BG
attribute [local go_sem ↓] Go.wp_at_zero Go.wp_at_succ run_min_at run_max_at
set_option linter.unusedVariables false

theorem countv_bd (m n size : Int) : 0 ≤ countv m n size ∧ countv m n size ≤ 8796093022208 := by
  unfold countv
  split
  · rename_i h
    have hz := szb_bd h.2
    obtain ⟨hm1, hm2⟩ : 1 ≤ m ∧ m ≤ min n 1099511627776 := of_decide_eq_true h.1
    have h1 : 0 ≤ (min n 1099511627776 - m) / (size - m + 1) := Int.ediv_nonneg (by omega) (by omega)
    have h2 : (min n 1099511627776 - m) / (size - m + 1) ≤ min n 1099511627776 - m := Int.ediv_le_self _ (by omega)
    omega
  · omega
def costv (m n : Int) (l : Nat) : Int := countv m n ((2 ^ l : Nat) : Int) * ((2 ^ l : Nat) : Int) * ((l : Int) + 1)
def fitT (m n : Int) : Nat → Int × Int
  | 0 => (0, 0)
  | l + 1 => if 0 < costv m n l ∧ ((fitT m n l).1 = 0 ∨ costv m n l < (fitT m n l).2) then (((2 ^ l : Nat) : Int), costv m n l) else fitT m n l
def fitv (m n : Int) : Int := (fitT m n 13).1
theorem pow_bd {l : Nat} (h : l ≤ 12) : 1 ≤ ((2 ^ l : Nat) : Int) ∧ ((2 ^ l : Nat) : Int) ≤ 4096 := by
  have h1 := Nat.two_pow_pos l
  have h2 : 2 ^ l ≤ 2 ^ 12 := Nat.pow_le_pow_right (by decide) h
  omega
theorem costv_bd (m n : Int) {l : Nat} (h : l ≤ 12) : 0 ≤ countv m n ((2 ^ l : Nat) : Int) * ((2 ^ l : Nat) : Int) ∧ countv m n ((2 ^ l : Nat) : Int) * ((2 ^ l : Nat) : Int) ≤ 36028797018963968 ∧ 0 ≤ costv m n l ∧ costv m n l ≤ 468374361246531584 := by
  have h1 := countv_bd m n ((2 ^ l : Nat) : Int)
  have h2 := pow_bd h
  have h3 : countv m n ((2 ^ l : Nat) : Int) * ((2 ^ l : Nat) : Int) ≤ 8796093022208 * 4096 := Int.mul_le_mul h1.2 h2.2 (by omega) (by decide)
  have h4 : 0 ≤ countv m n ((2 ^ l : Nat) : Int) * ((2 ^ l : Nat) : Int) := Int.mul_nonneg h1.1 (by omega)
  have h5 : costv m n l ≤ 36028797018963968 * 13 := Int.mul_le_mul (by omega) (by omega) (by omega) (by decide)
  have h6 : 0 ≤ costv m n l := Int.mul_nonneg h4 (by omega)
  exact ⟨h4, by omega, h6, by omega⟩
theorem fitT_bd (m n : Int) : ∀ l, l ≤ 13 → 0 ≤ (fitT m n l).1 ∧ (fitT m n l).1 ≤ 4096 ∧ 0 ≤ (fitT m n l).2 ∧ (fitT m n l).2 ≤ 468374361246531584 := by
  intro l
  induction l with
  | zero => intro _; exact ⟨Int.le_refl 0, (by decide : (0 : Int) ≤ 4096), Int.le_refl 0, (by decide : (0 : Int) ≤ 468374361246531584)⟩
  | succ l ih =>
    intro h
    have a := ih (by omega)
    have b := costv_bd m n (l := l) (by omega)
    have c := pow_bd (l := l) (by omega)
    show 0 ≤ (if _ then _ else _ : Int × Int).1 ∧ (if _ then _ else _ : Int × Int).1 ≤ 4096 ∧ 0 ≤ (if _ then _ else _ : Int × Int).2 ∧ (if _ then _ else _ : Int × Int).2 ≤ _
    split
    · exact ⟨(by omega : 0 ≤ ((2 ^ l : Nat) : Int)), c.2, b.2.2.1, b.2.2.2⟩
    · exact a
theorem fitT_yes {m n : Int} {l : Nat} (h : 0 < costv m n l) (h2 : (fitT m n l).1 = 0 ∨ costv m n l < (fitT m n l).2) : fitT m n (l + 1) = (((2 ^ l : Nat) : Int), costv m n l) := by
  show (if _ then _ else _) = _
  rw [if_pos ⟨h, h2⟩]
theorem fitT_no {m n : Int} {l : Nat} (h : ¬ (0 < costv m n l ∧ ((fitT m n l).1 = 0 ∨ costv m n l < (fitT m n l).2))) : fitT m n (l + 1) = fitT m n l := by
  show (if _ then _ else _) = _
  rw [if_neg h]
end Go.Proofs.Ythbbkmkaopgmdaa
