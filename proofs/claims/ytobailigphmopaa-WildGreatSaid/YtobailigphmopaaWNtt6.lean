/-
  Layer 2 (ntt): products that go round.
-/
import Derived.Test.YtobailigphmopaaWNtt5
namespace Go.Proofs.Ytobailigphmopaa
open Go.RowKit BG
attribute [local go_sem ↓] Go.wp_at_zero Go.wp_at_succ
set_option linter.unusedVariables false

def cycErr (k : Int) (n m : Nat) : Int := if amiss k n = 0 then (if m = n then 0 else 21) else amiss k n
def cycv (k : Int) (xs ys : List Int) : List Int := if cycErr k xs.length ys.length = 0 then mk xs.length fun t => of k (cyc xs.length (nth xs) (nth ys) t) else []
theorem cycErr_zero {k : Int} {n m : Nat} (h : cycErr k n m = 0) : amiss k n = 0 ∧ m = n := by
  unfold cycErr at h
  split at h
  · rename_i h1
    refine ⟨h1, ?_⟩
    split at h
    · assumption
    · cases h
  · rename_i h1; exact absurd h h1
theorem invv_prod {k : Int} {xs ys : List Int} (hl : ys.length = xs.length) (h : amiss k xs.length = 0) : invv k (mk xs.length fun j => mulm k (dft k xs.length (nth xs) (rootm k (lgv xs.length)) j) (dft k xs.length (nth ys) (rootm k (lgv xs.length)) j)) = mk xs.length fun t => of k (cyc xs.length (nth xs) (nth ys) t) := by
  obtain ⟨hp, hlg⟩ := amiss_zero h
  obtain ⟨hL, hx⟩ := len_log h
  unfold invv
  rw [mk_length, if_pos h]
  refine mk_congr fun t ht => ?_
  have h1 := idft_mul (rootOf hp hL) (rootm_ne hp hL) (pow_ne hp hL) (nth xs) (nth ys) t (by rw [← hx]; exact ht)
  rw [← hx] at h1
  rw [← h1]
  unfold idft
  rw [dft_cong (y := fun j => mulm k (dft k xs.length (nth xs) (rootm k (lgv xs.length)) j) (dft k xs.length (nth ys) (rootm k (lgv xs.length)) j)) (fun j hj => by rw [nth_mk hj]; exact Cong.refl _ _) (Cong.refl _ _)]
theorem fwdv_eq {k : Int} {xs : List Int} (h : amiss k xs.length = 0) : fwdv k xs = mk xs.length (dft k xs.length (nth xs) (rootm k (lgv xs.length))) := by unfold fwdv; rw [if_pos h]
theorem amiss_pos {k : Int} {n : Nat} (h : amiss k n = 0) : 0 < n ∧ n ≤ 4096 := by
  obtain ⟨h1, h2⟩ := log_some (amiss_zero h).2
  have h3 := Nat.two_pow_pos (lgv n)
  have h4 : 2 ^ lgv n ≤ 2 ^ 12 := Nat.pow_le_pow_right (by decide) h1
  omega
/-- The products up to row i, column j, laid where they go. -/
def cycTo (k : Int) (n : Nat) (a b : Nat → Int) (i j t : Nat) : Int :=
  of k ((sumTo i fun i' => sumTo n fun j' => if (i' + j') % n = t then a i' * b j' else 0) + sumTo j fun j' => if (i + j') % n = t then a i * b j' else 0)
theorem cycTo_zero (k : Int) (n : Nat) (a b : Nat → Int) (hk : pr k ≠ 0) : mk n (cycTo k n a b 0 0) = mk n fun _ => 0 := mk_congr fun t _ => by
  unfold cycTo
  show of k (0 + 0) = 0
  exact of_small (by decide) (by have := pr_big hk; omega)
theorem cycTo_row (k : Int) (n : Nat) (a b : Nat → Int) (i : Nat) : mk n (cycTo k n a b i n) = mk n (cycTo k n a b (i + 1) 0) := mk_congr fun t _ => by
  unfold cycTo
  show _ = of k (sumTo i _ + _ + 0)
  rw [Int.add_zero]
theorem cycTo_all (k : Int) (n : Nat) (a b : Nat → Int) : mk n (cycTo k n a b n 0) = mk n fun t => of k (cyc n a b t) := mk_congr fun t _ => by
  unfold cycTo cyc
  show of k (_ + 0) = _
  rw [Int.add_zero]
theorem cycTo_set (k : Int) {n : Nat} (a b : Nat → Int) (i j : Nat) (hn : 0 < n) : (mk n (cycTo k n a b i j)).set ((i + j) % n) (addm k (cycTo k n a b i j ((i + j) % n)) (mulm k (a i) (b j))) = mk n (cycTo k n a b i (j + 1)) := by
  rw [mk_set _ (Nat.mod_lt _ hn)]
  refine mk_congr fun t _ => ?_
  by_cases h : t = (i + j) % n
  · rw [if_pos h, h]
    unfold cycTo addm mulm
    rw [of_add_l, of_add_r]
    have e : (sumTo (j + 1) fun j' => if (i + j') % n = (i + j) % n then a i * b j' else 0) = (sumTo j fun j' => if (i + j') % n = (i + j) % n then a i * b j' else 0) + a i * b j := by
      show _ + (if (i + j) % n = (i + j) % n then a i * b j else 0) = _
      rw [if_pos rfl]
    rw [e, Int.add_assoc]
  · rw [if_neg h]
    unfold cycTo
    have e : (sumTo (j + 1) fun j' => if (i + j') % n = t then a i * b j' else 0) = sumTo j fun j' => if (i + j') % n = t then a i * b j' else 0 := by
      show _ + (if (i + j) % n = t then a i * b j else 0) = _
      rw [if_neg (fun e => h e.symm), Int.add_zero]
    rw [e]
end Go.Proofs.Ytobailigphmopaa
