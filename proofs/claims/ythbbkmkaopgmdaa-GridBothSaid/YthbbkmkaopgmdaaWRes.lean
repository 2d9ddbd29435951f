/-
  Layer 1's functions (residue, beagleref01), each by a contract: what it returns; nothing that was there has changed.
-/
import Derived.Test.YthbbkmkaopgmdaaBase
set_option linter.unusedVariables false
namespace Go.Proofs.Ythbbkmkaopgmdaa
open Go.RowKit BG
attribute [local go_sem ↓] Go.wp_at_zero Go.wp_at_succ

theorem prime_c (k : Int) (w : World) : Calls Try.prog 75 #[.int .i64 k] w (Ret (.int .u64 (pr k)) w) := by
  rcases pr_cases k with ⟨rfl, h⟩ | ⟨rfl, h⟩ | ⟨rfl, h⟩ | ⟨ho, h⟩
  · rw [h]; clear h
    go_enter Try.func75, Try.ntmps75
    go_wp2
    go_ret
    exact ⟨rfl, by go_grown⟩
  · rw [h]; clear h
    go_enter Try.func75, Try.ntmps75
    go_wp2
    go_ret
    exact ⟨rfl, by go_grown⟩
  · rw [h]; clear h
    go_enter Try.func75, Try.ntmps75
    go_wp2
    go_ret
    exact ⟨rfl, by go_grown⟩
  · rw [h]; clear h
    by_cases h0 : k < 0
    · go_enter Try.func75, Try.ntmps75
      go_wp2
      go_ret
      exact ⟨rfl, by go_grown⟩
    · have h3 : 3 ≤ k := by omega
      go_enter Try.func75, Try.ntmps75
      go_wp2
      go_ret
      exact ⟨rfl, by go_grown⟩

theorem of_c (k a : Int) (h0 : 0 ≤ a) (w : World) : Calls Try.prog 72 #[.int .i64 k, .int .u64 a] w (Ret (.int .u64 (of k a)) w) := by
  by_cases hp : pr k = 0
  · rw [of_zero hp]
    go_enter Try.func72, Try.ntmps72
    go_wp2_with fail
    refine (prime_c k _).mono ?_
    rintro e w1 ⟨rfl, hk⟩
    go_wp2
    go_ret
    exact ⟨rfl, hk⟩
  · have hr := pr_range k
    have h1 : 1 ≤ pr k := by omega
    rw [of_eq hp]
    go_enter Try.func72, Try.ntmps72
    go_wp2_with fail
    refine (prime_c k _).mono ?_
    rintro e w1 ⟨rfl, hk⟩
    go_wp2
    go_ret
    exact ⟨rfl, hk⟩

theorem add_c (k a b : Int) (ha : 0 ≤ a) (hb : 0 ≤ b) (w : World) : Calls Try.prog 80 #[.int .i64 k, .int .u64 a, .int .u64 b] w (Ret (.int .u64 (addm k a b)) w) := by
  obtain ⟨h1, h2⟩ := of_bd k a
  obtain ⟨h3, h4⟩ := of_bd k b
  rw [← addm_is]
  go_enter Try.func80, Try.ntmps80
  go_wp2_with fail
  refine (of_c k a ha _).mono ?_
  rintro e w1 ⟨rfl, hk1⟩
  go_wp2_with fail
  refine (of_c k b hb _).mono ?_
  rintro e w2 ⟨rfl, hk2⟩
  go_wp2_with fail
  refine (of_c k _ (by omega) _).mono ?_
  rintro e w3 ⟨rfl, hk3⟩
  go_wp2_with fail
  go_ret
  exact ⟨rfl, kept_trans hk1 (kept_trans hk2 hk3)⟩

theorem sub_c (k a b : Int) (ha : 0 ≤ a) (hb : 0 ≤ b) (w : World) : Calls Try.prog 81 #[.int .i64 k, .int .u64 a, .int .u64 b] w (Ret (.int .u64 (subm k a b)) w) := by
  obtain ⟨h1, h2⟩ := of_bd k a
  obtain ⟨h3, h4⟩ := of_bd k b
  obtain ⟨h5, h6⟩ := pr_range k
  have h7 : of k b ≤ of k a + pr k := by
    by_cases hp : pr k = 0
    · rw [of_zero hp b]; omega
    · have := of_lt hp b; omega
  rw [← subm_is]
  go_enter Try.func81, Try.ntmps81
  go_wp2_with fail
  refine (of_c k a ha _).mono ?_
  rintro e w1 ⟨rfl, hk1⟩
  go_wp2_with fail
  refine (prime_c k _).mono ?_
  rintro e w2 ⟨rfl, hk2⟩
  go_wp2_with fail
  refine (of_c k b hb _).mono ?_
  rintro e w3 ⟨rfl, hk3⟩
  go_wp2_with fail
  refine (of_c k _ (by omega) _).mono ?_
  rintro e w4 ⟨rfl, hk4⟩
  go_wp2_with fail
  go_ret
  exact ⟨rfl, kept_trans hk1 (kept_trans hk2 (kept_trans hk3 hk4))⟩

theorem mul_bd {a b : Int} (h1 : 0 ≤ a) (h2 : a ≤ 998244352) (h3 : 0 ≤ b) (h4 : b ≤ 998244352) : 0 ≤ a * b ∧ a * b ≤ 996491786433269904 := by
  refine ⟨Int.mul_nonneg h1 h3, ?_⟩
  have := Int.mul_le_mul h2 h4 h3 (by decide)
  omega

theorem mul_c (k a b : Int) (ha : 0 ≤ a) (hb : 0 ≤ b) (w : World) : Calls Try.prog 51 #[.int .i64 k, .int .u64 a, .int .u64 b] w (Ret (.int .u64 (mulm k a b)) w) := by
  obtain ⟨h1, h2⟩ := of_bd k a
  obtain ⟨h3, h4⟩ := of_bd k b
  obtain ⟨h5, h6⟩ := mul_bd h1 h2 h3 h4
  rw [← mulm_is]
  go_enter Try.func51, Try.ntmps51
  go_wp2_with fail
  refine (of_c k a ha _).mono ?_
  rintro e w1 ⟨rfl, hk1⟩
  go_wp2_with fail
  refine (of_c k b hb _).mono ?_
  rintro e w2 ⟨rfl, hk2⟩
  go_wp2_with fail
  refine (of_c k _ h5 _).mono ?_
  rintro e w3 ⟨rfl, hk3⟩
  go_wp2_with fail
  go_ret
  exact ⟨rfl, kept_trans hk1 (kept_trans hk2 hk3)⟩

def PowInv (k a n b m o : Int) : Prop := 0 ≤ b ∧ 0 ≤ o ∧ of k o = o ∧ mulm k o (pw k b m) = pw k a n
theorem powInv_end {k a n b o : Int} (h : PowInv k a n b 0 o) : o = pw k a n := by
  obtain ⟨_, _, h1, h2⟩ := h
  rw [← h2, pw_zero]
  unfold mulm
  rw [of_mul_r, Int.mul_one, h1]
theorem powInv_even {k a n b m o : Int} (hm : 0 ≤ m) (h : PowInv k a n b m o) (he : m % 2 = 0) : PowInv k a n (mulm k b b) (m / 2) o := by
  obtain ⟨h0, h1, h2, h3⟩ := h
  refine ⟨(mulm_bd k b b).1, h1, h2, ?_⟩
  rw [← h3]
  congr 1
  have e : mulm k b b = pw k b 2 := by
    unfold mulm pw; rw [show (2 : Int).toNat = 2 from rfl, Int.pow_succ, Int.pow_succ, Int.pow_zero, Int.one_mul]
  rw [e, pw_mul k b (by decide) (by omega), show 2 * (m / 2) = m from by omega]
theorem powInv_odd {k a n b m o : Int} (hm : 0 ≤ m) (h : PowInv k a n b m o) (he : m % 2 = 1) : PowInv k a n (mulm k b b) (m / 2) (mulm k o b) := by
  obtain ⟨h0, h1, h2, h3⟩ := h
  have h' : PowInv k a n b (m - 1) (mulm k o b) := by
    refine ⟨h0, (mulm_bd k o b).1, of_mulm _ _ _, ?_⟩
    rw [← h3]
    have e : pw k b m = mulm k (pw k b 1) (pw k b (m - 1)) := by rw [← pw_add k b (by decide) (by omega), show 1 + (m - 1) = m from by omega]
    rw [e]
    unfold mulm
    rw [of_mul_l, of_mul_r, show pw k b 1 = of k b from by unfold pw; rw [show (1 : Int).toNat = 1 from rfl, Int.pow_succ, Int.pow_zero, Int.one_mul], Int.mul_assoc]
    rw [← of_mul_r k o, ← of_mul_r k o (of k b * _), of_mul_l]
  have := powInv_even (by omega) h' (by omega)
  rwa [show (m - 1) / 2 = m / 2 from by omega] at this
theorem powInv_start {k a n : Int} (ha : 0 ≤ a) : PowInv k a n a n (of k 1) := by
  refine ⟨ha, of_nonneg _ _, of_of _ _, ?_⟩
  unfold mulm; rw [of_mul_l, Int.one_mul, of_pw]

def PowFrame (k b m o : Int) (a' : Act) : Prop := ∃ u8 u9 u10 u11 u12 u13 u14 u15 u16 u17 u18 u19 u20 u21 u22 u23 u24 u25 : Value,
  a' = { tmps := #[.int .i64 k, .int .u64 b, .int .u64 m, undef, undef, undef, .int .u64 0, .int .u64 o, u8, u9, u10, u11, u12, u13, u14, u15, u16, u17, u18, u19, u20, u21, u22, u23, u24, u25], defers := [] }

theorem pow_c (k a n : Int) (ha : 0 ≤ a) (hn : 0 ≤ n) (hn2 : n ≤ 18446744073709551615) (w : World) : Calls Try.prog 76 #[.int .i64 k, .int .u64 a, .int .u64 n] w (Ret (.int .u64 (pw k a n)) w) := by
  go_enter Try.func76, Try.ntmps76
  go_wp2_with fail
  refine wp_scope_jumps 0 (fun a' w' => Kept w w' ∧ ∃ b m o : Int, PowFrame k b m o a' ∧ 0 ≤ m ∧ m ≤ 18446744073709551615 ∧ PowInv k a n b m o) (fun a' _ => (intOf (a'.tmps.getD 2 undef)).toNat) rfl ?_ ?_
  · go_wp2_with fail
    refine (of_c k 1 (by decide) _).mono ?_
    rintro e w1 ⟨rfl, hk1⟩
    have HI := powInv_start (k := k) (n := n) ha
    have HB := of_bd k 1
    by_cases hz : n = 0
    · subst hz
      go_wp2_with fail
      go_step3
      go_wp2_with fail
      simp only [Exit.jump]
      go_ret
      exact ⟨by rw [powInv_end HI]; rfl, hk1⟩
    · rcases (show n % 2 = 0 ∨ n % 2 = 1 from by omega) with he | he
      · have HB2 : bits .and .u64 n 1 = n % 2 := and_one_u64 n hn hn2
        have HB3 : ((n % 2 : Int) == 1) = false := by rw [he]; rfl
        have HI' := powInv_even hn HI he
        have hnz : (n == 0) = false := by simp [hz]
        go_wp2_with fail
        go_step3
        go_wp2_with fail
        refine (mul_c k a a ha ha _).mono ?_
        rintro e w2 ⟨rfl, hk2⟩
        go_wp2_with fail
        go_step3
        exact ⟨rfl, kept_trans hk1 hk2, _, _, _, ⟨_, _, _, _, _, _, _, _, _, _, _, _, _, _, _, _, _, _, rfl⟩, by omega, by omega, HI'⟩
      · have HB2 : bits .and .u64 n 1 = n % 2 := and_one_u64 n hn hn2
        have HB3 : ((n % 2 : Int) == 1) = true := by rw [he]; rfl
        have HI' := powInv_odd hn HI he
        have hnz : (n == 0) = false := by simp [hz]
        go_wp2_with fail
        go_step3
        go_wp2_with fail
        refine (mul_c k _ a HB.1 ha _).mono ?_
        rintro e w2 ⟨rfl, hk2⟩
        go_wp2_with fail
        refine (mul_c k a a ha ha _).mono ?_
        rintro e w3 ⟨rfl, hk3⟩
        go_wp2_with fail
        go_step3
        exact ⟨rfl, kept_trans hk1 (kept_trans hk2 hk3), _, _, _, ⟨_, _, _, _, _, _, _, _, _, _, _, _, _, _, _, _, _, _, rfl⟩, by omega, by omega, HI'⟩
  · rintro a' wr ⟨hk1, b, m, o, ⟨u8, u9, u10, u11, u12, u13, u14, u15, u16, u17, u18, u19, u20, u21, u22, u23, u24, u25, rfl⟩, hm, hm2, HI⟩
    have hb := HI.1
    have ho := HI.2.1
    by_cases hz : m = 0
    · subst hz
      go_wp2_with fail
      simp only [Exit.jump]
      go_ret
      exact ⟨by rw [powInv_end HI]; rfl, hk1⟩
    · rcases (show m % 2 = 0 ∨ m % 2 = 1 from by omega) with he | he
      · have HB2 : bits .and .u64 m 1 = m % 2 := and_one_u64 m hm hm2
        have HB3 : ((m % 2 : Int) == 1) = false := by rw [he]; rfl
        have HI' := powInv_even hm HI he
        have hnz : (m == 0) = false := by simp [hz]
        go_wp2_with fail
        refine (mul_c k b b hb hb _).mono ?_
        rintro e w2 ⟨rfl, hk2⟩
        go_wp2_with fail
        go_step3
        refine ⟨rfl, ⟨kept_trans hk1 hk2, _, _, _, ⟨_, _, _, _, _, _, _, _, _, _, _, _, _, _, _, _, _, _, rfl⟩, by omega, by omega, HI'⟩, ?_⟩
        simp [intOf]; omega
      · have HB2 : bits .and .u64 m 1 = m % 2 := and_one_u64 m hm hm2
        have HB3 : ((m % 2 : Int) == 1) = true := by rw [he]; rfl
        have HI' := powInv_odd hm HI he
        have hnz : (m == 0) = false := by simp [hz]
        go_wp2_with fail
        refine (mul_c k o b ho hb _).mono ?_
        rintro e w2 ⟨rfl, hk2⟩
        go_wp2_with fail
        refine (mul_c k b b hb hb _).mono ?_
        rintro e w3 ⟨rfl, hk3⟩
        go_wp2_with fail
        go_step3
        refine ⟨rfl, ⟨kept_trans hk1 (kept_trans hk2 hk3), _, _, _, ⟨_, _, _, _, _, _, _, _, _, _, _, _, _, _, _, _, _, _, rfl⟩, by omega, by omega, HI'⟩, ?_⟩
        simp [intOf]; omega
/-- There is an inverse. -/
def hasInv (k a : Int) : Bool := !(of k a == 0)
theorem inv_c (k a : Int) (ha : 0 ≤ a) (w : World) : Calls Try.prog 73 #[.int .i64 k, .int .u64 a] w (Ret (.tuple #[.int .u64 (invm k a), .bool (hasInv k a)]) w) := by
  have h0 := of_bd k a
  by_cases hz : of k a = 0
  · have e1 : invm k a = 0 := by simp [invm, hz]
    have e2 : hasInv k a = false := by simp [hasInv, hz]
    rw [e1, e2]
    clear e1 e2
    go_enter Try.func73, Try.ntmps73
    go_wp2_with fail
    refine (of_c k a ha _).mono ?_
    rintro e w1 ⟨rfl, hk1⟩
    go_wp2_with fail
    go_ret2
    exact ⟨rfl, hk1⟩
  · have hp : pr k ≠ 0 := fun e => hz (of_zero e a)
    have hr := pr_range k
    have hb := pr_big hp
    have e1 : invm k a = pw k a (pr k - 2) := by simp [invm, hz]
    have e2 : hasInv k a = true := by simp [hasInv, hz]
    rw [e1, e2]
    clear e1 e2
    have hz' : (of k a == 0) = false := by simp [hz]
    go_enter Try.func73, Try.ntmps73
    go_wp2_with fail
    refine (of_c k a ha _).mono ?_
    rintro e w1 ⟨rfl, hk1⟩
    go_wp2_with fail
    refine (prime_c k _).mono ?_
    rintro e w2 ⟨rfl, hk2⟩
    go_wp2_with fail
    refine (pow_c k a _ ha (by omega) (by omega) _).mono ?_
    rintro e w3 ⟨rfl, hk3⟩
    go_wp2_with fail
    go_ret2
    exact ⟨rfl, kept_trans hk1 (kept_trans hk2 hk3)⟩

/-- There is a root of 1. -/
def hasRoot (k l : Int) : Bool := decide (pr k ≠ 0 ∧ 0 ≤ l ∧ l ≤ 12)
def rootv (k l : Int) : Int := if hasRoot k l then rootm k l.toNat else 0
theorem root_c (k l : Int) (hl : -9223372036854775808 ≤ l) (hl2 : l ≤ 9223372036854775807) (w : World) : Calls Try.prog 69 #[.int .i64 k, .int .i64 l] w (Ret (.tuple #[.int .u64 (rootv k l), .bool (hasRoot k l)]) w) := by
  have hr := pr_range k
  by_cases hz : pr k ≠ 0 ∧ 0 ≤ l ∧ l ≤ 12
  · obtain ⟨hp, h0, h1⟩ := hz
    have hb := pr_big hp
    have e1 : hasRoot k l = true := by simp [hasRoot, hp, h0, h1]
    have e2 : rootv k l = rootm k l.toNat := by simp [rootv, e1]
    rw [e1, e2]
    clear e1 e2
    have hpf : (pr k == 0) = false := by simp [hp]
    go_enter Try.func69, Try.ntmps69
    go_wp2_with fail
    refine (prime_c k _).mono ?_
    rintro e w1 ⟨rfl, hk1⟩
    go_wp2_with fail
    refine (prime_c k _).mono ?_
    rintro e w2 ⟨rfl, hk2⟩
    go_wp2_with fail
    have hq0 : 0 ≤ (pr k - 1) / 2 ^ l.toNat := Int.ediv_nonneg (by omega) (Int.le_of_lt (Int.pow_pos (by decide)))
    have hq1 : (pr k - 1) / 2 ^ l.toNat ≤ 998244352 := Int.le_trans (Int.ediv_le_self _ (by omega)) (by omega)
    refine (pow_c k 3 _ (by decide) hq0 (by omega) _).mono ?_
    rintro e w3 ⟨rfl, hk3⟩
    go_wp2_with fail
    go_ret2
    exact ⟨by rw [rootm_is]; rfl, kept_trans hk1 (kept_trans hk2 hk3)⟩
  · have e1 : hasRoot k l = false := by simp only [hasRoot, decide_eq_false_iff_not]; exact hz
    have e2 : rootv k l = 0 := by simp [rootv, e1]
    rw [e1, e2]
    clear e1 e2
    by_cases hp : pr k = 0
    · have hpf : (pr k == 0) = true := by simp [hp]
      clear hz
      go_enter Try.func69, Try.ntmps69
      go_wp2_with fail
      refine (prime_c k _).mono ?_
      rintro e w1 ⟨rfl, hk1⟩
      go_wp2_with fail
      go_ret2
      exact ⟨rfl, hk1⟩
    · have hpf : (pr k == 0) = false := by simp [hp]
      by_cases h0 : l < 0
      · clear hz
        go_enter Try.func69, Try.ntmps69
        go_wp2_with fail
        refine (prime_c k _).mono ?_
        rintro e w1 ⟨rfl, hk1⟩
        go_wp2_with fail
        go_ret2
        exact ⟨rfl, hk1⟩
      · have h1 : 12 < l := by
          rcases Int.lt_or_le 12 l with h | h
          · exact h
          · exact absurd ⟨hp, by omega, h⟩ hz
        clear hz
        go_enter Try.func69, Try.ntmps69
        go_wp2_with fail
        refine (prime_c k _).mono ?_
        rintro e w1 ⟨rfl, hk1⟩
        go_wp2_with fail
        go_ret2
        exact ⟨rfl, hk1⟩

/-! ### beagleref01 -/
theorem pw_half (k a n : Int) (hn : 0 ≤ n) : pw k a n = if n % 2 = 1 then mulm k (mulm k (pw k a (n / 2)) (pw k a (n / 2))) a else mulm k (pw k a (n / 2)) (pw k a (n / 2)) := by
  have e : mulm k (pw k a (n / 2)) (pw k a (n / 2)) = pw k a (n / 2 + n / 2) := (pw_add k a (by omega) (by omega)).symm
  rw [e]
  split
  · have h1 : pw k a n = mulm k (pw k a (n / 2 + n / 2)) (pw k a 1) := by rw [← pw_add k a (by omega) (by decide), show n / 2 + n / 2 + 1 = n from by omega]
    rw [h1]
    unfold mulm
    rw [show pw k a 1 = of k a from by unfold pw; rw [show (1 : Int).toNat = 1 from rfl, Int.pow_succ, Int.pow_zero, Int.one_mul], of_mul_r]
  · rw [show n / 2 + n / 2 = n from by omega]

structure EuclInv (k a r s u v : Int) : Prop where
  apart : Apart r u
  h1 : Cong k (s * of k a) r
  h2 : Cong k (v * of k a) u
theorem euclInv_start {k a : Int} (hz : of k a ≠ 0) : EuclInv k a (pr k) 0 (of k a) 1 := by
  refine ⟨apart_start hz, ?_, ?_⟩
  · rw [Int.zero_mul]
    have := cong_pr k 0 1
    rw [Int.zero_add, Int.mul_one] at this
    exact this.symm
  · rw [Int.one_mul]; exact Cong.refl _ _
theorem euclInv_step {k a r s u v : Int} (h : EuclInv k a r s u v) : EuclInv k a u v (r % u) (subm k s (mulm k (r / u) v)) :=
  ⟨apart_step h.apart, h.h2, euclid_step h.h1 h.h2⟩
end Go.Proofs.Ythbbkmkaopgmdaa
