/-
  Layer 1's statements: the walks.
-/
import Derived.Test.YtjfpcggpdbkjgaaWRes
namespace Go.Proofs.Ytjfpcggpdbkjgaa
open Go.RowKit BG
attribute [local go_sem ↓] Go.wp_at_zero Go.wp_at_succ
set_option linter.unusedVariables false

theorem alive01_c (w : World) : Calls Try.prog 25 #[] w (Ret (.bool true) w) := by
  have e1 : invm 2 2 = 234881025 := inv_2_2
  have e2 : hasInv 2 2 = true := by simp [hasInv, of, pr]
  have e3 : hasInv 0 998244353 = false := by simp [hasInv, of, pr]
  have e4 : rootv 0 1 = 998244352 := by
    have : hasRoot 0 1 = true := by simp [hasRoot, pr]
    rw [rootv, this, if_pos rfl, ← rootm_is, pr0]
    exact root_0_1
  have e5 : hasRoot 0 1 = true := by simp [hasRoot, pr]
  have e6 : hasRoot 0 13 = false := by simp [hasRoot]
  have e7 : pr 1 = 167772161 := pr1
  have e8 : pr 3 = 0 := pr_out (by omega)
  have e9 : of 0 998244354 = 1 := by simp [of, pr]
  have e10 : addm 0 998244352 2 = 1 := by simp [addm, of, pr]
  have e11 : subm 0 1 2 = 998244352 := by simp [subm, of, pr]
  have e12 : mulm 0 998244352 2 = 998244351 := by simp [mulm, of, pr]
  have e13 : pw 1 2 10 = 1024 := pow_1_2
  go_enter Try.func25, Try.ntmps25
  go_wp2_with fail
  refine (inv_c 2 2 (by decide) _).mono ?_
  rintro e w1 ⟨rfl, hk1⟩
  go_wp2_with fail
  refine (inv_c 0 998244353 (by decide) _).mono ?_
  rintro e w2 ⟨rfl, hk2⟩
  go_wp2_with fail
  refine (root_c 0 1 (by decide) (by decide) _).mono ?_
  rintro e w3 ⟨rfl, hk3⟩
  go_wp2_with fail
  refine (root_c 0 13 (by decide) (by decide) _).mono ?_
  rintro e w4 ⟨rfl, hk4⟩
  go_wp2_with fail
  refine (prime_c 1 _).mono ?_
  rintro e w5 ⟨rfl, hk5⟩
  go_wp2_with fail
  refine (prime_c 3 _).mono ?_
  rintro e w6 ⟨rfl, hk6⟩
  go_wp2_with fail
  refine (of_c 0 998244354 (by decide) _).mono ?_
  rintro e w7 ⟨rfl, hk7⟩
  go_wp2_with fail
  refine (add_c 0 998244352 2 (by decide) (by decide) _).mono ?_
  rintro e w8 ⟨rfl, hk8⟩
  go_wp2_with fail
  refine (sub_c 0 1 2 (by decide) (by decide) _).mono ?_
  rintro e w9 ⟨rfl, hk9⟩
  go_wp2_with fail
  refine (mul_c 0 998244352 2 (by decide) (by decide) _).mono ?_
  rintro e w10 ⟨rfl, hk10⟩
  go_wp2_with fail
  refine (pow_c 1 2 10 (by decide) (by decide) (by decide) _).mono ?_
  rintro e w11 ⟨rfl, hk11⟩
  go_wp2_with fail
  go_ret
  exact ⟨rfl, kept_trans hk1 (kept_trans hk2 (kept_trans hk3 (kept_trans hk4 (kept_trans hk5 (kept_trans hk6 (kept_trans hk7 (kept_trans hk8 (kept_trans hk9 (kept_trans hk10 hk11)))))))))⟩
theorem residueAll_w (k a b : Int) (ha : 0 ≤ a) (hb : 0 ≤ b) (w : World) : Calls Try.prog 3 #[.int .i64 k, .int .u64 a, .int .u64 b] w (Ret (.bool true) w) := by
  by_cases hp : pr k = 0
  · have e1 : addm k a b = 0 := of_zero hp _
    have e2 : subm k a b = 0 := of_zero hp _
    have e3 : mulm k a b = 0 := of_zero hp _
    go_enter Try.func3, Try.ntmps3
    go_wp2_with fail
    refine (add_c k a b ha hb _).mono ?_
    rintro e w1 ⟨rfl, hk1⟩
    go_wp2_with fail
    refine (sub_c k a b ha hb _).mono ?_
    rintro e w2 ⟨rfl, hk2⟩
    go_wp2_with fail
    refine (mul_c k a b ha hb _).mono ?_
    rintro e w3 ⟨rfl, hk3⟩
    go_wp2_with fail
    refine (prime_c k _).mono ?_
    rintro e w4 ⟨rfl, hk4⟩
    go_wp2_with fail
    refine (rprime_c k _).mono ?_
    rintro e w5 ⟨rfl, hk5⟩
    go_wp2_with fail
    refine (of_c k a ha _).mono ?_
    rintro e w6 ⟨rfl, hk6⟩
    go_wp2_with fail
    refine (rof_c k a ha _).mono ?_
    rintro e w7 ⟨rfl, hk7⟩
    go_wp2_with fail
    refine (radd_c k a b ha hb _).mono ?_
    rintro e w8 ⟨rfl, hk8⟩
    go_wp2_with fail
    refine (rsub_c k a b ha hb _).mono ?_
    rintro e w9 ⟨rfl, hk9⟩
    go_wp2_with fail
    refine (rmul_c k a b ha hb _).mono ?_
    rintro e w10 ⟨rfl, hk10⟩
    go_wp2_with fail
    refine (prime_c k _).mono ?_
    rintro e w11 ⟨rfl, hk11⟩
    go_wp2_with fail
    refine (alive01_c _).mono ?_
    rintro e w12 ⟨rfl, hk12⟩
    go_wp2_with fail
    go_ret
    exact ⟨rfl, (kept_trans hk1 (kept_trans hk2 (kept_trans hk3 (kept_trans hk4 (kept_trans hk5 (kept_trans hk6 (kept_trans hk7 (kept_trans hk8 (kept_trans hk9 (kept_trans hk10 (kept_trans hk11 hk12)))))))))))⟩
  · have hr := pr_range k
    have h1 := addm_bd k a b
    have h2 := subm_bd k a b
    have h3 := mulm_bd k a b
    have g1 : addm k a b < pr k := of_lt hp _
    have g2 : subm k a b < pr k := of_lt hp _
    have g3 : mulm k a b < pr k := of_lt hp _
    have hpf : (pr k == 0) = false := by simp [hp]
    go_enter Try.func3, Try.ntmps3
    go_wp2_with fail
    refine (add_c k a b ha hb _).mono ?_
    rintro e w1 ⟨rfl, hk1⟩
    go_wp2_with fail
    refine (sub_c k a b ha hb _).mono ?_
    rintro e w2 ⟨rfl, hk2⟩
    go_wp2_with fail
    refine (mul_c k a b ha hb _).mono ?_
    rintro e w3 ⟨rfl, hk3⟩
    go_wp2_with fail
    refine (prime_c k _).mono ?_
    rintro e w4 ⟨rfl, hk4⟩
    go_wp2_with fail
    refine (rprime_c k _).mono ?_
    rintro e w5 ⟨rfl, hk5⟩
    go_wp2_with fail
    refine (of_c k a ha _).mono ?_
    rintro e w6 ⟨rfl, hk6⟩
    go_wp2_with fail
    refine (rof_c k a ha _).mono ?_
    rintro e w7 ⟨rfl, hk7⟩
    go_wp2_with fail
    refine (radd_c k a b ha hb _).mono ?_
    rintro e w8 ⟨rfl, hk8⟩
    go_wp2_with fail
    refine (rsub_c k a b ha hb _).mono ?_
    rintro e w9 ⟨rfl, hk9⟩
    go_wp2_with fail
    refine (rmul_c k a b ha hb _).mono ?_
    rintro e w10 ⟨rfl, hk10⟩
    go_wp2_with fail
    refine (prime_c k _).mono ?_
    rintro e w11 ⟨rfl, hk11⟩
    go_wp2_with fail
    refine (alive01_c _).mono ?_
    rintro e w12 ⟨rfl, hk12⟩
    go_wp2_with fail
    go_ret
    exact ⟨rfl, (kept_trans hk1 (kept_trans hk2 (kept_trans hk3 (kept_trans hk4 (kept_trans hk5 (kept_trans hk6 (kept_trans hk7 (kept_trans hk8 (kept_trans hk9 (kept_trans hk10 (kept_trans hk11 hk12)))))))))))⟩

theorem residuePowers_w (k a m n : Int) (ha : 0 ≤ a) (hm : 0 ≤ m) (hm2 : m ≤ 18446744073709551615) (hn : 0 ≤ n) (hn2 : n ≤ 18446744073709551615) (w : World) :
    Calls Try.prog 4 #[.int .i64 k, .int .u64 a, .agg #[.int .u64 m, .int .u64 n]] w (Ret (.bool true) w) := by
  have hx := pw_bd k a m
  have hy := pw_bd k a n
  have hadd : pw k a (m + n) = mulm k (pw k a m) (pw k a n) := pw_add k a hm hn
  have HA := Lib.hid hadd
  clear hadd
  go_enter Try.func4, Try.ntmps4
  go_wp2_with fail
  refine (pow_c k a m ha hm hm2 _).mono ?_
  rintro e w1 ⟨rfl, hk1⟩
  have hc1 : w1.cell? ⟨w.heap.size, 0, none⟩ = some (.int .u64 m) := kept_cell hk1 (by simp [go_sem])
  have hd1 : w1.cell? ⟨w.heap.size, 1, none⟩ = some (.int .u64 n) := kept_cell hk1 (by simp [go_sem])
  go_wp2_with fail
  refine (pow_c k a n ha hn hn2 _).mono ?_
  rintro e w2 ⟨rfl, hk2⟩
  have hc2 := kept_cell hk2 hc1
  have hd2 := kept_cell hk2 hd1
  go_wp2_with fail
  refine (rpow_c 18446744073709551615 k a m ha hm hm2 hm2 _).mono ?_
  rintro e w3 ⟨rfl, hk3⟩
  have hc3 := kept_cell hk3 hc2
  have hd3 := kept_cell hk3 hd2
  go_wp2_with fail
  refine (rpow_c 18446744073709551615 k a n ha hn hn2 hn2 _).mono ?_
  rintro e w4 ⟨rfl, hk4⟩
  have hc4 := kept_cell hk4 hc3
  have hd4 := kept_cell hk4 hd3
  clear hc1 hc2 hc3 hd1 hd2 hd3
  go_wp2_with fail
  refine (alive01_c _).mono ?_
  rintro e w5 ⟨rfl, hk5⟩
  have hc5 := kept_cell hk5 hc4
  have hd5 := kept_cell hk5 hd4
  clear hc4 hd4
  have hK := kept_trans hk1 (kept_trans hk2 (kept_trans hk3 (kept_trans hk4 hk5)))
  clear hk1 hk2 hk3 hk4 hk5
  by_cases h1 : 4611686018427387904 < m
  · go_wp2_with fail
    go_ret
    exact ⟨rfl, kept_trans (kept_alloc (kept_refl _) _) hK⟩
  · by_cases h2 : 4611686018427387904 < n
    · go_wp2_with fail
      go_ret
      exact ⟨rfl, kept_trans (kept_alloc (kept_refl _) _) hK⟩
    · go_wp2_with fail
      refine (pow_c k a (m + n) ha (by omega) (by omega) _).mono ?_
      rintro e w6 ⟨rfl, hk6⟩
      rw [HA.out]
      go_wp2_with fail
      refine (mul_c k _ _ hx.1 hy.1 _).mono ?_
      rintro e w7 ⟨rfl, hk7⟩
      go_wp2_with fail
      go_ret
      exact ⟨rfl, kept_trans (kept_alloc (kept_refl _) _) (kept_trans hK (kept_trans hk6 hk7))⟩

theorem two_pow_le {n : Nat} (h : n ≤ 12) : (2 : Int) ^ n ≤ 4096 := by
  have := Nat.pow_le_pow_right (n := 2) (by decide) h
  have e : (2 : Int) ^ n = ((2 ^ n : Nat) : Int) := by rw [Int.natCast_pow]; rfl
  rw [e]; omega

theorem residueInverses_w (k a : Int) (ha : 0 ≤ a) (w : World) :
    Calls Try.prog 5 #[.int .i64 k, .int .u64 a] w (Ret (.bool true) w) := by
  have hx := invm_bd k a
  by_cases hz : of k a = 0
  · have e2 : hasInv k a = false := by simp [hasInv, hz]
    go_enter Try.func5, Try.ntmps5
    go_wp2_with fail
    refine (inv_c k a ha _).mono ?_
    rintro e w1 ⟨rfl, hk1⟩
    go_wp2_with fail
    refine (rinv_c k a ha _).mono ?_
    rintro e w2 ⟨rfl, hk2⟩
    go_wp2_with fail
    refine (inv_c k _ hx.1 _).mono ?_
    rintro e w3 ⟨rfl, hk3⟩
    go_wp2_with fail
    refine (alive01_c _).mono ?_
    rintro e w4 ⟨rfl, hk4⟩
    go_wp2_with fail
    go_ret
    exact ⟨rfl, kept_trans hk1 (kept_trans hk2 (kept_trans hk3 hk4))⟩
  · have hp : pr k ≠ 0 := fun e => hz (of_zero e a)
    have e2 : hasInv k a = true := by simp [hasInv, hz]
    have hz2 : of k (invm k a) ≠ 0 := invm_ne hz
    have e3 : hasInv k (invm k a) = true := by simp only [hasInv, beq_eq_false_iff_ne.2 hz2, Bool.not_false]
    have e4 : mulm k a (invm k a) = 1 := mul_invm hz
    have e5 : invm k (invm k a) = of k a := invm_invm hz
    clear hz hz2 hp
    go_enter Try.func5, Try.ntmps5
    go_wp2_with fail
    refine (inv_c k a ha _).mono ?_
    rintro e w1 ⟨rfl, hk1⟩
    go_wp2_with fail
    refine (rinv_c k a ha _).mono ?_
    rintro e w2 ⟨rfl, hk2⟩
    go_wp2_with fail
    refine (inv_c k _ hx.1 _).mono ?_
    rintro e w3 ⟨rfl, hk3⟩
    go_wp2_with fail
    refine (alive01_c _).mono ?_
    rintro e w4 ⟨rfl, hk4⟩
    go_wp2_with fail
    refine (mul_c k a _ ha hx.1 _).mono ?_
    rintro e w5 ⟨rfl, hk5⟩
    go_wp2_with fail
    refine (of_c k a ha _).mono ?_
    rintro e w6 ⟨rfl, hk6⟩
    go_wp2_with fail
    go_ret
    exact ⟨rfl, kept_trans hk1 (kept_trans hk2 (kept_trans hk3 (kept_trans hk4 (kept_trans hk5 hk6))))⟩

theorem residueFermat_w (k a : Int) (ha : 0 ≤ a) (w : World) :
    Calls Try.prog 8 #[.int .i64 k, .int .u64 a] w (Ret (.bool true) w) := by
  have hr := pr_range k
  by_cases hp : pr k = 0
  · go_enter Try.func8, Try.ntmps8
    go_wp2_with fail
    refine (prime_c k _).mono ?_
    rintro e w1 ⟨rfl, hk1⟩
    go_wp2_with fail
    refine (alive01_c _).mono ?_
    rintro e w2 ⟨rfl, hk2⟩
    go_wp2_with fail
    go_ret
    exact ⟨rfl, kept_trans hk1 hk2⟩
  · have hpf : (pr k == 0) = false := by simp [hp]
    have hb := pr_big hp
    by_cases hz : of k a = 0
    · go_enter Try.func8, Try.ntmps8
      go_wp2_with fail
      refine (prime_c k _).mono ?_
      rintro e w1 ⟨rfl, hk1⟩
      go_wp2_with fail
      refine (alive01_c _).mono ?_
      rintro e w2 ⟨rfl, hk2⟩
      go_wp2_with fail
      refine (of_c k a ha _).mono ?_
      rintro e w3 ⟨rfl, hk3⟩
      go_wp2_with fail
      go_ret
      exact ⟨rfl, kept_trans hk1 (kept_trans hk2 hk3)⟩
    · have hzf : (of k a == 0) = false := by simp [hz]
      have hf : pw k a (pr k - 1) = 1 := pw_fermat hz
      go_enter Try.func8, Try.ntmps8
      go_wp2_with fail
      refine (prime_c k _).mono ?_
      rintro e w1 ⟨rfl, hk1⟩
      go_wp2_with fail
      refine (alive01_c _).mono ?_
      rintro e w2 ⟨rfl, hk2⟩
      go_wp2_with fail
      refine (of_c k a ha _).mono ?_
      rintro e w3 ⟨rfl, hk3⟩
      go_wp2_with fail
      refine (pow_c k a _ ha (by omega) (by omega) _).mono ?_
      rintro e w4 ⟨rfl, hk4⟩
      go_wp2_with fail
      go_ret
      exact ⟨rfl, kept_trans hk1 (kept_trans hk2 (kept_trans hk3 hk4))⟩

theorem residueRoots_w (k l : Int) (hl : -9223372036854775808 ≤ l) (hl2 : l ≤ 9223372036854775807) (w : World) :
    Calls Try.prog 6 #[.int .i64 k, .int .i64 l] w (Ret (.bool true) w) := by
  by_cases hz : pr k ≠ 0 ∧ 0 ≤ l ∧ l ≤ 12
  · obtain ⟨hp, h0, h1⟩ := hz
    have e1 : hasRoot k l = true := by simp [hasRoot, hp, h0, h1]
    have hrb : 0 ≤ rootv k l ∧ rootv k l ≤ 998244352 := by
      rw [rootv, e1, if_pos rfl]; exact rootm_bd _ _
    have hr := pr_range k
    have hb := pr_big hp
    have f1 : pw k (rootv k l) ((2 : Int) ^ l.toNat) = 1 := by
      rw [rootv, e1, if_pos rfl]
      have := rootm_pow hp (l := l.toNat) (by omega)
      rwa [Int.natCast_pow] at this
    have hpl : (0 : Int) < 2 ^ l.toNat := Int.pow_pos (by decide)
    have hpu : (2 : Int) ^ l.toNat ≤ 4096 := two_pow_le (by omega)
    have hwr : IntKind.u64.wrap ((2 : Int) ^ l.toNat) = 2 ^ l.toNat := IntWalk.u64_in _ ⟨by omega, by omega⟩
    have F1 := Lib.hid f1
    clear f1
    by_cases hl0 : l = 0
    · subst hl0
      clear hp hwr
      go_enter Try.func6, Try.ntmps6
      go_wp2_with fail
      refine (root_c k 0 hl hl2 _).mono ?_
      rintro e w1 ⟨rfl, hk1⟩
      go_wp2_with fail
      refine (rroot_c k 0 hl hl2 _).mono ?_
      rintro e w2 ⟨rfl, hk2⟩
      go_wp2_with fail
      refine (alive01_c _).mono ?_
      rintro e w3 ⟨rfl, hk3⟩
      go_wp2_with fail
      refine (pow_c k _ _ hrb.1 (by decide) (by decide) _).mono ?_
      rintro e w4 ⟨rfl, hk4⟩
      have f1 : pw k (rootv k 0) 1 = 1 := F1.out
      go_wp2_with fail
      go_ret
      exact ⟨rfl, kept_trans hk1 (kept_trans hk2 (kept_trans hk3 hk4))⟩
    have hl0f : (l == 0) = false := by simp [hl0]
    have f2 : pw k (rootv k l) ((2 : Int) ^ (l.toNat - 1)) = pr k - 1 := by
      rw [rootv, e1, if_pos rfl]
      have := rootm_half hp (l := l.toNat - 1) (by omega)
      rwa [Int.natCast_pow, show l.toNat - 1 + 1 = l.toNat from by omega] at this
    have hpl2 : (0 : Int) < 2 ^ (l.toNat - 1) := Int.pow_pos (by decide)
    have hpu2 : (2 : Int) ^ (l.toNat - 1) ≤ 4096 := two_pow_le (by omega)
    have hwr2 : IntKind.u64.wrap ((2 : Int) ^ (l.toNat - 1)) = 2 ^ (l.toNat - 1) := IntWalk.u64_in _ ⟨by omega, by omega⟩
    have F2 := Lib.hid f2
    clear f2 hp hl0
    have hl1 : 1 ≤ l := by have : ¬ l = 0 := fun e => by simp [e] at hl0f
                           omega
    go_enter Try.func6, Try.ntmps6
    go_wp2_with fail
    refine (root_c k l hl hl2 _).mono ?_
    rintro e w1 ⟨rfl, hk1⟩
    go_wp2_with fail
    refine (rroot_c k l hl hl2 _).mono ?_
    rintro e w2 ⟨rfl, hk2⟩
    go_wp2_with fail
    refine (alive01_c _).mono ?_
    rintro e w3 ⟨rfl, hk3⟩
    go_wp2_with fail
    refine (pow_c k _ _ hrb.1 (by omega) (by omega) _).mono ?_
    rintro e w4 ⟨rfl, hk4⟩
    rw [F1.out]
    go_wp2_with fail
    refine (pow_c k _ _ hrb.1 (by omega) (by omega) _).mono ?_
    rintro e w5 ⟨rfl, hk5⟩
    rw [F2.out]
    go_wp2_with fail
    refine (prime_c k _).mono ?_
    rintro e w6 ⟨rfl, hk6⟩
    go_wp2_with fail
    go_ret
    exact ⟨rfl, kept_trans hk1 (kept_trans hk2 (kept_trans hk3 (kept_trans hk4 (kept_trans hk5 hk6))))⟩
  · have e1 : hasRoot k l = false := by simp only [hasRoot, decide_eq_false_iff_not]; exact hz
    clear hz
    go_enter Try.func6, Try.ntmps6
    go_wp2_with fail
    refine (root_c k l hl hl2 _).mono ?_
    rintro e w1 ⟨rfl, hk1⟩
    go_wp2_with fail
    refine (rroot_c k l hl hl2 _).mono ?_
    rintro e w2 ⟨rfl, hk2⟩
    go_wp2_with fail
    refine (alive01_c _).mono ?_
    rintro e w3 ⟨rfl, hk3⟩
    go_wp2_with fail
    go_ret
    exact ⟨rfl, kept_trans hk1 (kept_trans hk2 hk3)⟩
end Go.Proofs.Ytjfpcggpdbkjgaa
