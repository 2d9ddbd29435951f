/-
  Layer 5 (block): how many transforms.
-/
import Derived.Test.YthbbkmkaopgmdaaWBlk1
namespace Go.Proofs.Ythbbkmkaopgmdaa
open Go.RowKit BG
attribute [local go_sem ↓] Go.wp_at_zero Go.wp_at_succ run_min_at run_max_at
set_option linter.unusedVariables false

def countv (m n size : Int) : Int := if slb m (min n 1099511627776) = true ∧ szb m size = true then 3 + 6 * ((min n 1099511627776 - m) / (size - m + 1) + 1) else 0
theorem blocks_eq (a e : Int) (ha : 0 ≤ a) (he : 1 ≤ e) : (if (a + 1) % e = 0 then (a + 1) / e else (a + 1) / e + 1) = a / e + 1 := by
  have h1 := Int.mul_ediv_add_emod a e
  have h2 := Int.emod_nonneg a (b := e) (by omega)
  have h3 := Int.emod_lt_of_pos a (b := e) (by omega)
  generalize a / e = q at *
  generalize a % e = r at *
  subst h1
  by_cases h : r + 1 = e
  · rw [show e * q + r + 1 = e * (q + 1) by rw [Int.mul_add]; omega, Int.mul_emod_right, if_pos rfl, Int.mul_ediv_cancel_left _ (by omega)]
  · rw [show e * q + r + 1 = (r + 1) + e * q by omega, Int.add_mul_emod_self_left, Int.add_mul_ediv_left _ _ (by omega), Int.emod_eq_of_lt (by omega) (by omega), Int.ediv_eq_zero_of_lt (by omega) (by omega), if_neg (by omega)]
    omega
set_option maxHeartbeats 2000000 in
theorem count_c (m n size : Int) (w : World) : Calls Try.prog 54 #[.int .i64 m, .int .i64 n, .int .i64 size] w (Ret (.int .i64 (countv m n size)) w) := by
  unfold countv
  have S1 := slides_c m (min n 1099511627776) w
  have S2 := fun w => sized_c m size w
  have hn1 : min n 1099511627776 ≤ 1099511627776 := by omega
  generalize hmn : min n 1099511627776 = n1 at *
  cases h1 : slb m n1
  · rw [h1] at S1
    rw [if_neg (by simp)]
    clear h1
    go_enter Try.func54, Try.ntmps54
    go_wp2_with fail
    refine S1.mono ?_
    rintro e w1 ⟨rfl, hk1⟩
    go_wp2_with fail
    go_ret
    exact ⟨rfl, hk1⟩
  cases h2 : szb m size
  · rw [h1] at S1
    rw [h2] at S2
    rw [if_neg (by simp)]
    clear h1 h2
    go_enter Try.func54, Try.ntmps54
    go_wp2_with fail
    refine S1.mono ?_
    rintro e w1 ⟨rfl, hk1⟩
    go_wp2_with fail
    refine (S2 _).mono ?_
    rintro e w2 ⟨rfl, hk2⟩
    go_wp2_with fail
    go_ret
    exact ⟨rfl, kept_trans hk1 hk2⟩
  have hz := szb_bd h2
  obtain ⟨hm1, hm2⟩ : 1 ≤ m ∧ m ≤ n1 := of_decide_eq_true h1
  rw [h1] at S1
  rw [h2] at S2
  rw [if_pos ⟨rfl, rfl⟩]
  clear h1 h2
  have e1 : n1 - m + 1 - 1 = n1 - m := by omega
  have hd : (n1 - m).tdiv (size - m + 1) = (n1 - m) / (size - m + 1) := Int.tdiv_eq_ediv_of_nonneg (by omega)
  have hd0 : 0 ≤ (n1 - m) / (size - m + 1) := Int.ediv_nonneg (by omega) (by omega)
  have hd1 : (n1 - m) / (size - m + 1) ≤ n1 - m := Int.ediv_le_self _ (by omega)
  have hb : (size - m + 1 == 0) = false := by rw [beq_eq_false_iff_ne]; omega
  generalize hE : size - m + 1 = E at *
  generalize (n1 - m) / E = D at *
  go_enter Try.func54, Try.ntmps54
  go_wp2_with fail
  refine S1.mono ?_
  rintro e w1 ⟨rfl, hk1⟩
  go_wp2_with fail
  refine (S2 _).mono ?_
  rintro e w2 ⟨rfl, hk2⟩
  clear S1 S2
  go_wp2_with fail
  go_ret
  exact ⟨rfl, kept_trans hk1 hk2⟩
set_option maxHeartbeats 2000000 in
theorem rcount_c (m n size : Int) (w : World) : Calls Try.prog 37 #[.int .i64 m, .int .i64 n, .int .i64 size] w (Ret (.int .i64 (countv m n size)) w) := by
  unfold countv
  by_cases hn : 1099511627776 < n
  · have hmin : min n 1099511627776 = 1099511627776 := by omega
    rw [hmin]
    have S1 := rslides_c m 1099511627776 w
    have S2 := fun w => rsized_c m size w
    have hn1 : (1099511627776 : Int) ≤ 1099511627776 := by omega
    cases h1 : slb m 1099511627776
    · rw [h1] at S1
      rw [if_neg (by simp)]
      clear h1
      go_enter Try.func37, Try.ntmps37
      go_wp2_with fail
      refine S1.mono ?_
      rintro e w1 ⟨rfl, hk1⟩
      go_wp2_with fail
      go_ret
      exact ⟨rfl, hk1⟩
    cases h2 : szb m size
    · rw [h1] at S1
      rw [h2] at S2
      rw [if_neg (by simp)]
      clear h1 h2
      go_enter Try.func37, Try.ntmps37
      go_wp2_with fail
      refine S1.mono ?_
      rintro e w1 ⟨rfl, hk1⟩
      go_wp2_with fail
      refine (S2 _).mono ?_
      rintro e w2 ⟨rfl, hk2⟩
      go_wp2_with fail
      go_ret
      exact ⟨rfl, kept_trans hk1 hk2⟩
    have hz := szb_bd h2
    obtain ⟨hm1, hm2⟩ : 1 ≤ m ∧ m ≤ 1099511627776 := of_decide_eq_true h1
    rw [h1] at S1
    rw [h2] at S2
    rw [if_pos ⟨rfl, rfl⟩]
    clear h1 h2
    have hbl := blocks_eq ((1099511627776 : Int) - m) (size - m + 1) (by omega) (by omega)
    have hd : ((1099511627776 : Int) - m + 1).tdiv (size - m + 1) = ((1099511627776 : Int) - m + 1) / (size - m + 1) := Int.tdiv_eq_ediv_of_nonneg (by omega)
    have hr : ((1099511627776 : Int) - m + 1).tmod (size - m + 1) = ((1099511627776 : Int) - m + 1) % (size - m + 1) := Int.tmod_eq_emod_of_nonneg (by omega)
    have hd0 : 0 ≤ ((1099511627776 : Int) - m + 1) / (size - m + 1) := Int.ediv_nonneg (by omega) (by omega)
    have hd1 : ((1099511627776 : Int) - m + 1) / (size - m + 1) ≤ 1099511627776 - m + 1 := Int.ediv_le_self _ (by omega)
    have hb : (size - m + 1 == 0) = false := by rw [beq_eq_false_iff_ne]; omega
    have hr0 := Int.emod_nonneg ((1099511627776 : Int) - m + 1) (b := size - m + 1) (by omega)
    have hr1 := Int.emod_lt_of_pos ((1099511627776 : Int) - m + 1) (b := size - m + 1) (by omega)
    rw [← hbl]
    clear hbl
    generalize hE : size - m + 1 = E at *
    generalize ((1099511627776 : Int) - m + 1) / E = D at *
    generalize ((1099511627776 : Int) - m + 1) % E = R at *
    by_cases hR : R = 0
    · subst hR
      rw [if_pos rfl]
      go_enter Try.func37, Try.ntmps37
      go_wp2_with fail
      refine S1.mono ?_
      rintro e w1 ⟨rfl, hk1⟩
      go_wp2_with fail
      refine (S2 _).mono ?_
      rintro e w2 ⟨rfl, hk2⟩
      clear S1 S2
      go_wp2_with fail
      go_ret
      exact ⟨rfl, kept_trans hk1 hk2⟩
    · rw [if_neg hR]
      have hbr : (R == 0) = false := by simpa using hR
      go_enter Try.func37, Try.ntmps37
      go_wp2_with fail
      refine S1.mono ?_
      rintro e w1 ⟨rfl, hk1⟩
      go_wp2_with fail
      refine (S2 _).mono ?_
      rintro e w2 ⟨rfl, hk2⟩
      clear S1 S2
      go_wp2_with fail
      go_ret
      exact ⟨rfl, kept_trans hk1 hk2⟩
  · have hmin : min n 1099511627776 = n := by omega
    rw [hmin]
    have S1 := rslides_c m n w
    have S2 := fun w => rsized_c m size w
    have hn1 : n ≤ 1099511627776 := by omega
    cases h1 : slb m n
    · rw [h1] at S1
      rw [if_neg (by simp)]
      clear h1
      go_enter Try.func37, Try.ntmps37
      go_wp2_with fail
      refine S1.mono ?_
      rintro e w1 ⟨rfl, hk1⟩
      go_wp2_with fail
      go_ret
      exact ⟨rfl, hk1⟩
    cases h2 : szb m size
    · rw [h1] at S1
      rw [h2] at S2
      rw [if_neg (by simp)]
      clear h1 h2
      go_enter Try.func37, Try.ntmps37
      go_wp2_with fail
      refine S1.mono ?_
      rintro e w1 ⟨rfl, hk1⟩
      go_wp2_with fail
      refine (S2 _).mono ?_
      rintro e w2 ⟨rfl, hk2⟩
      go_wp2_with fail
      go_ret
      exact ⟨rfl, kept_trans hk1 hk2⟩
    have hz := szb_bd h2
    obtain ⟨hm1, hm2⟩ : 1 ≤ m ∧ m ≤ n := of_decide_eq_true h1
    rw [h1] at S1
    rw [h2] at S2
    rw [if_pos ⟨rfl, rfl⟩]
    clear h1 h2
    have hbl := blocks_eq (n - m) (size - m + 1) (by omega) (by omega)
    have hd : (n - m + 1).tdiv (size - m + 1) = (n - m + 1) / (size - m + 1) := Int.tdiv_eq_ediv_of_nonneg (by omega)
    have hr : (n - m + 1).tmod (size - m + 1) = (n - m + 1) % (size - m + 1) := Int.tmod_eq_emod_of_nonneg (by omega)
    have hd0 : 0 ≤ (n - m + 1) / (size - m + 1) := Int.ediv_nonneg (by omega) (by omega)
    have hd1 : (n - m + 1) / (size - m + 1) ≤ n - m + 1 := Int.ediv_le_self _ (by omega)
    have hb : (size - m + 1 == 0) = false := by rw [beq_eq_false_iff_ne]; omega
    have hr0 := Int.emod_nonneg (n - m + 1) (b := size - m + 1) (by omega)
    have hr1 := Int.emod_lt_of_pos (n - m + 1) (b := size - m + 1) (by omega)
    rw [← hbl]
    clear hbl
    generalize hE : size - m + 1 = E at *
    generalize (n - m + 1) / E = D at *
    generalize (n - m + 1) % E = R at *
    by_cases hR : R = 0
    · subst hR
      rw [if_pos rfl]
      go_enter Try.func37, Try.ntmps37
      go_wp2_with fail
      refine S1.mono ?_
      rintro e w1 ⟨rfl, hk1⟩
      go_wp2_with fail
      refine (S2 _).mono ?_
      rintro e w2 ⟨rfl, hk2⟩
      clear S1 S2
      go_wp2_with fail
      go_ret
      exact ⟨rfl, kept_trans hk1 hk2⟩
    · rw [if_neg hR]
      have hbr : (R == 0) = false := by simpa using hR
      go_enter Try.func37, Try.ntmps37
      go_wp2_with fail
      refine S1.mono ?_
      rintro e w1 ⟨rfl, hk1⟩
      go_wp2_with fail
      refine (S2 _).mono ?_
      rintro e w2 ⟨rfl, hk2⟩
      clear S1 S2
      go_wp2_with fail
      go_ret
      exact ⟨rfl, kept_trans hk1 hk2⟩
end Go.Proofs.Ythbbkmkaopgmdaa
