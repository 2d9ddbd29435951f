/-
  Layer 3, as plain functions: the digits of residues, the number of residues, and when there is one.
-/
import Derived.Test.YthbbkmkaopgmdaaRes
set_option linter.unusedVariables false
namespace BG

/-- The digits. -/
def dg0 (a : Int) : Int := of 0 a
def dg1 (a b : Int) : Int := mulm 1 (subm 1 b (dg0 a)) (invm 1 998244353)
def dg2 (a b c : Int) : Int := mulm 2 (subm 2 (subm 2 c (dg0 a)) (mulm 2 (dg1 a b) 998244353)) (invm 2 (mulm 2 998244353 167772161))
/-- What is left, as the document has it. -/
theorem dg2_is (a b c : Int) : mulm 2 (subm 2 c (addm 2 (dg0 a) (mulm 2 (dg1 a b) 998244353))) (invm 2 (mulm 2 998244353 167772161)) = dg2 a b c := by
  unfold dg2
  congr 1
  unfold subm addm
  rw [of_sub_r, of_sub_l]
  congr 1
  omega
theorem dg0_bd (a : Int) : 0 ≤ dg0 a ∧ dg0 a < 998244353 := ⟨of_nonneg _ _, by have := of_lt (k := 0) (by rw [pr0]; decide) a; rw [pr0] at this; exact this⟩
theorem dg1_bd (a b : Int) : 0 ≤ dg1 a b ∧ dg1 a b < 167772161 := ⟨(mulm_bd _ _ _).1, by have := of_lt (k := 1) (by rw [pr1]; decide) (subm 1 b (dg0 a) * invm 1 998244353); rw [pr1] at this; exact this⟩
theorem dg2_bd (a b c : Int) : 0 ≤ dg2 a b c ∧ dg2 a b c < 469762049 := ⟨(mulm_bd _ _ _).1, by have := of_lt (k := 2) (by rw [pr2]; decide) (subm 2 (subm 2 c (dg0 a)) (mulm 2 (dg1 a b) 998244353) * invm 2 (mulm 2 998244353 167772161)); rw [pr2] at this; exact this⟩
/-- The digits above the lowest, together. -/
def high (a b c : Int) : Int := dg1 a b + dg2 a b c * 167772161
theorem high_bd (a b c : Int) : 0 ≤ high a b c ∧ high a b c < 78812994116517889 := by
  have h1 := dg1_bd a b
  have h2 := dg2_bd a b c
  unfold high
  omega
/-- The number of three residues. -/
def num (a b c : Int) : Int := dg0 a + high a b c * 998244353
/-- It is below 2^64. -/
def fits (a b c : Int) : Bool := decide (num a b c ≤ 18446744073709551615)
theorem fits_yes {a b c : Int} (h : fits a b c = true) : dg0 a + (dg1 a b + dg2 a b c * 167772161) * 998244353 ≤ 18446744073709551615 := of_decide_eq_true h
theorem fits_no {a b c : Int} (h : fits a b c = false) : ¬ dg0 a + (dg1 a b + dg2 a b c * 167772161) * 998244353 ≤ 18446744073709551615 := of_decide_eq_false h
theorem num_nonneg (a b c : Int) : 0 ≤ num a b c := by
  have h0 := dg0_bd a; have h1 := high_bd a b c; unfold num; omega

/-! ### Its residues -/
theorem ne0 : of 1 998244353 ≠ 0 := by simp [of, pr]
theorem ne1 : of 2 (mulm 2 998244353 167772161) ≠ 0 := by simp [mulm, of, pr]
theorem dg1_mul (a b : Int) : Cong 1 (dg1 a b * 998244353) (b - dg0 a) := by
  have e : Cong 1 (dg1 a b * 998244353) ((b - dg0 a) * (998244353 * invm 1 998244353)) := by
    have : (b - dg0 a) * (998244353 * invm 1 998244353) = ((b - dg0 a) * invm 1 998244353) * 998244353 := by
      rw [Int.mul_comm 998244353, Int.mul_assoc]
    rw [this]
    refine Cong.mul ?_ (Cong.refl _ _)
    exact (cong_of 1 _).trans ((cong_of 1 _).mul (Cong.refl _ _))
  refine e.trans ?_
  have h1 : Cong 1 (998244353 * invm 1 998244353) 1 := by unfold Cong; rw [mul_invm ne0, of_one (by rw [pr1]; decide)]
  have := (Cong.refl 1 (b - dg0 a)).mul h1
  rwa [Int.mul_one] at this
theorem dg2_mul (a b c : Int) : Cong 2 (dg2 a b c * (998244353 * 167772161)) (c - dg0 a - dg1 a b * 998244353) := by
  have hm : Cong 2 (998244353 * 167772161) (mulm 2 998244353 167772161) := (cong_of 2 _).symm
  have e0 : Cong 2 (dg2 a b c) ((c - dg0 a - dg1 a b * 998244353) * invm 2 (mulm 2 998244353 167772161)) := by
    refine (cong_of 2 _).trans (Cong.mul ?_ (Cong.refl _ _))
    exact (cong_of 2 _).trans ((cong_of 2 _).sub (cong_of 2 _))
  have e1 := e0.mul hm
  refine e1.trans ?_
  rw [Int.mul_assoc, Int.mul_comm (invm 2 _)]
  have h1 : Cong 2 (mulm 2 998244353 167772161 * invm 2 (mulm 2 998244353 167772161)) 1 := by unfold Cong; rw [mul_invm ne1, of_one (by rw [pr2]; decide)]
  have := (Cong.refl 2 (c - dg0 a - dg1 a b * 998244353)).mul h1
  rwa [Int.mul_one] at this
theorem num_0 (a b c : Int) : of 0 (num a b c) = of 0 a := by
  have := cong_pr 0 (dg0 a) (high a b c)
  rw [pr0] at this
  unfold num
  rw [Int.mul_comm]
  exact this.trans (of_of 0 a)
theorem num_1 (a b c : Int) : of 1 (num a b c) = of 1 b := by
  have e : num a b c = (dg0 a + dg1 a b * 998244353) + 167772161 * (dg2 a b c * 998244353) := by
    unfold num high
    rw [Int.add_mul, Int.add_assoc, Int.mul_right_comm, Int.mul_comm _ 167772161]
  have h := cong_pr 1 (dg0 a + dg1 a b * 998244353) (dg2 a b c * 998244353)
  rw [pr1] at h
  rw [e]
  refine Cong.trans h ?_
  have := (Cong.refl 1 (dg0 a)).add (dg1_mul a b)
  rw [show dg0 a + (b - dg0 a) = b from by omega] at this
  exact this
theorem num_2 (a b c : Int) : of 2 (num a b c) = of 2 c := by
  have e : num a b c = (dg0 a + dg1 a b * 998244353) + dg2 a b c * (998244353 * 167772161) := by
    unfold num high
    omega
  rw [e]
  have := (Cong.refl 2 (dg0 a + dg1 a b * 998244353)).add (dg2_mul a b c)
  rw [show dg0 a + dg1 a b * 998244353 + (c - dg0 a - dg1 a b * 998244353) = c from by omega] at this
  exact this

/-! ### Of a number's residues it is that number -/
theorem dg0_of {n a : Int} (h0 : Cong 0 a n) : dg0 a = n % 998244353 := by
  unfold dg0
  rw [h0, of_eq (by rw [pr0]; decide), pr0]
theorem dg1_of {n a b : Int} (h0 : Cong 0 a n) (h1 : Cong 1 b n) : dg1 a b = n / 998244353 % 167772161 := by
  have hp : pr 1 ≠ 0 := by rw [pr1]; decide
  have e : Cong 1 (dg1 a b) (n / 998244353) := by
    have e1 : Cong 1 (dg1 a b) ((n - n % 998244353) * invm 1 998244353) := by
      refine (cong_of 1 _).trans (Cong.mul ?_ (Cong.refl _ _))
      rw [dg0_of h0]
      exact (cong_of 1 _).trans (h1.sub (Cong.refl _ _))
    refine e1.trans ?_
    have e2 : n - n % 998244353 = n / 998244353 * 998244353 := by omega
    rw [e2, Int.mul_assoc]
    have h : Cong 1 (998244353 * invm 1 998244353) 1 := by unfold Cong; rw [mul_invm ne0, of_one hp]
    have := (Cong.refl 1 (n / 998244353)).mul h
    rwa [Int.mul_one] at this
  have hb := dg1_bd a b
  have : of 1 (dg1 a b) = dg1 a b := of_small hb.1 (by rw [pr1]; exact hb.2)
  rw [← this, e, of_eq hp, pr1]
theorem dg2_of {n a b c : Int} (hn : 0 ≤ n) (hn2 : n ≤ 18446744073709551615) (h0 : Cong 0 a n) (h1 : Cong 1 b n) (h2 : Cong 2 c n) : dg2 a b c = n / 998244353 / 167772161 := by
  have hp : pr 2 ≠ 0 := by rw [pr2]; decide
  have e : Cong 2 (dg2 a b c) (n / 998244353 / 167772161) := by
    have e1 : Cong 2 (dg2 a b c) ((n - n % 998244353 - n / 998244353 % 167772161 * 998244353) * invm 2 (mulm 2 998244353 167772161)) := by
      refine (cong_of 2 _).trans (Cong.mul ?_ (Cong.refl _ _))
      rw [dg0_of h0, dg1_of h0 h1]
      exact (cong_of 2 _).trans (((cong_of 2 _).trans (h2.sub (Cong.refl _ _))).sub (cong_of 2 _))
    refine e1.trans ?_
    have e2 : n - n % 998244353 - n / 998244353 % 167772161 * 998244353 = n / 998244353 / 167772161 * (998244353 * 167772161) := by omega
    rw [e2]
    have hm : Cong 2 (998244353 * 167772161) (mulm 2 998244353 167772161) := (cong_of 2 _).symm
    refine (((Cong.refl 2 _).mul hm).mul (Cong.refl 2 _)).trans ?_
    rw [Int.mul_assoc]
    have h : Cong 2 (mulm 2 998244353 167772161 * invm 2 (mulm 2 998244353 167772161)) 1 := by unfold Cong; rw [mul_invm ne1, of_one hp]
    have := (Cong.refl 2 (n / 998244353 / 167772161)).mul h
    rwa [Int.mul_one] at this
  have hb := dg2_bd a b c
  have : of 2 (dg2 a b c) = dg2 a b c := of_small hb.1 (by rw [pr2]; exact hb.2)
  rw [← this, e, of_small (by omega) (by rw [pr2]; omega)]
theorem num_of {n a b c : Int} (hn : 0 ≤ n) (hn2 : n ≤ 18446744073709551615) (h0 : Cong 0 a n) (h1 : Cong 1 b n) (h2 : Cong 2 c n) : num a b c = n := by
  unfold num high
  rw [dg0_of h0, dg1_of h0 h1, dg2_of hn hn2 h0 h1 h2]
  omega
theorem fits_of {n a b c : Int} (hn : 0 ≤ n) (hn2 : n ≤ 18446744073709551615) (h0 : Cong 0 a n) (h1 : Cong 1 b n) (h2 : Cong 2 c n) : fits a b c = true := by
  unfold fits
  rw [num_of hn hn2 h0 h1 h2]
  simpa using hn2
/-- The number, or 0 if there is none. -/
def joinv (a b c : Int) : Int := if fits a b c then num a b c else 0
theorem joinv_of {n a b c : Int} (hn : 0 ≤ n) (hn2 : n ≤ 18446744073709551615) (h0 : Cong 0 a n) (h1 : Cong 1 b n) (h2 : Cong 2 c n) : joinv a b c = n := by
  unfold joinv; rw [fits_of hn hn2 h0 h1 h2, if_pos rfl, num_of hn hn2 h0 h1 h2]
theorem inv_1_p0 : invm 1 998244353 = 47450712 := by
  have e : invm 1 998244353 = pw 1 998244353 (167772161 - 2) := by unfold invm; rw [if_neg ne0, pr1]
  rw [e]
  exact pw_at 167772161 998244353 167772159 30 47450712 pr1 (by decide) (by decide) (by decide +kernel)
theorem mul_2_pq : mulm 2 998244353 167772161 = 339738624 := by simp [mulm, of, pr]
theorem inv_2_pq : invm 2 339738624 = 115990628 := by
  have e : invm 2 339738624 = pw 2 339738624 (469762049 - 2) := by unfold invm; rw [if_neg (by simp [of, pr]), pr2]
  rw [e]
  exact pw_at 469762049 339738624 469762047 30 115990628 pr2 (by decide) (by decide) (by decide +kernel)
theorem fits_greatest : fits 998244352 167772160 469762048 = false := by
  have e : num 998244352 167772160 469762048 = 78674626319836206717730816 := by
    simp [num, high, dg2, inv_2_pq, dg1, inv_1_p0, dg0, subm, mulm, of, pr]
  unfold fits
  rw [e]
  rfl
theorem dg_three : dg0 3 = 3 ∧ dg1 3 3 = 0 ∧ dg2 3 3 3 = 0 := by
  refine ⟨?_, ?_, ?_⟩
  · simp [dg0, of, pr]
  · simp [dg1, dg0, subm, mulm, of, pr]
  · simp [dg2, dg1, dg0, subm, mulm, of, pr]
theorem num_five : num 5 5 5 = 5 := num_of (by decide) (by decide) (Cong.refl _ _) (Cong.refl _ _) (Cong.refl _ _)
theorem fits_five : fits 5 5 5 = true := fits_of (n := 5) (by decide) (by decide) (Cong.refl _ _) (Cong.refl _ _) (Cong.refl _ _)
theorem addm_num (k a b c : Int) : addm k (dg0 a) (mulm k (addm k (dg1 a b) (mulm k (dg2 a b c) 167772161)) 998244353) = of k (num a b c) := by
  unfold addm mulm
  rw [of_add_r, ← of_add_r k (dg0 a), of_mul_l, of_add_r]
  have : of k (dg0 a + (dg1 a b + of k (dg2 a b c * 167772161)) * 998244353) = of k (dg0 a + (dg1 a b + dg2 a b c * 167772161) * 998244353) :=
    (Cong.refl k (dg0 a)).add (((Cong.refl k (dg1 a b)).add (cong_of k _)).mul (Cong.refl k _))
  rw [this]
  rfl
end BG
