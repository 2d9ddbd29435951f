/-
  Texts of one claim, joined: WRes, Dft, WNtt1, WNtt2.
-/
import Derived.Laws.BitsLemmas
import Derived.Test.YtdejablhpljdfaaGreatQ01
set_option linter.unusedVariables false
namespace Go.Proofs.YtdejablhpljdfaaGreat
open Go.RowKit BG
attribute [local go_sem ↓] Go.wp_at_zero Go.wp_at_succ
theorem prime_c (k : Int) (w : World) : Calls Tryz.prog 204 #[.int .i64 k] w (Ret (.int .u64 (pr k)) w) := by
  rcases pr_cases k with ⟨rfl, h⟩ | ⟨rfl, h⟩ | ⟨rfl, h⟩ | ⟨ho, h⟩
  · rw [h]; clear h
    go_enter Tryz.func204, Tryz.ntmps204
    go_wp2
    go_ret
    exact ⟨rfl, by go_grown⟩
  · rw [h]; clear h
    go_enter Tryz.func204, Tryz.ntmps204
    go_wp2
    go_ret
    exact ⟨rfl, by go_grown⟩
  · rw [h]; clear h
    go_enter Tryz.func204, Tryz.ntmps204
    go_wp2
    go_ret
    exact ⟨rfl, by go_grown⟩
  · rw [h]; clear h
    by_cases h0 : k < 0
    · go_enter Tryz.func204, Tryz.ntmps204
      go_wp2
      go_ret
      exact ⟨rfl, by go_grown⟩
    · have h3 : 3 ≤ k := by omega
      go_enter Tryz.func204, Tryz.ntmps204
      go_wp2
      go_ret
      exact ⟨rfl, by go_grown⟩
theorem of_c (k a : Int) (h0 : 0 ≤ a) (w : World) : Calls Tryz.prog 160 #[.int .i64 k, .int .u64 a] w (Ret (.int .u64 (of k a)) w) := by
  by_cases hp : pr k = 0
  · rw [of_zero hp]
    go_enter Tryz.func160, Tryz.ntmps160
    go_wp2_with fail
    refine (prime_c k _).mono ?_
    rintro e w1 ⟨rfl, hk⟩
    go_wp2
    go_ret
    exact ⟨rfl, hk⟩
  · have hr := pr_range k
    have h1 : 1 ≤ pr k := by omega
    rw [of_eq hp]
    go_enter Tryz.func160, Tryz.ntmps160
    go_wp2_with fail
    refine (prime_c k _).mono ?_
    rintro e w1 ⟨rfl, hk⟩
    go_wp2
    go_ret
    exact ⟨rfl, hk⟩
theorem add_c (k a b : Int) (ha : 0 ≤ a) (hb : 0 ≤ b) (w : World) : Calls Tryz.prog 228 #[.int .i64 k, .int .u64 a, .int .u64 b] w (Ret (.int .u64 (addm k a b)) w) := by
  obtain ⟨h1, h2⟩ := of_bd k a
  obtain ⟨h3, h4⟩ := of_bd k b
  rw [← addm_is]
  go_enter Tryz.func228, Tryz.ntmps228
  go_wp2_with fail
  refine (of_c k a ha _).mono ?_
  rintro e w1 ⟨rfl, hk1⟩
  go_wp2_with fail
  refine (of_c k b hb _).mono ?_
  rintro e w2 ⟨rfl, hk2⟩
  go_wp2_with fail
  refine (of_c k _ (by omega) _).mono ?_
  rintro e w3 ⟨rfl, hk3⟩
  go_wp2_with fail
  go_ret
  exact ⟨rfl, kept_trans hk1 (kept_trans hk2 hk3)⟩
theorem sub_c (k a b : Int) (ha : 0 ≤ a) (hb : 0 ≤ b) (w : World) : Calls Tryz.prog 229 #[.int .i64 k, .int .u64 a, .int .u64 b] w (Ret (.int .u64 (subm k a b)) w) := by
  obtain ⟨h1, h2⟩ := of_bd k a
  obtain ⟨h3, h4⟩ := of_bd k b
  obtain ⟨h5, h6⟩ := pr_range k
  have h7 : of k b ≤ of k a + pr k := by
    by_cases hp : pr k = 0
    · rw [of_zero hp b]; omega
    · have := of_lt hp b; omega
  rw [← subm_is]
  go_enter Tryz.func229, Tryz.ntmps229
  go_wp2_with fail
  refine (of_c k a ha _).mono ?_
  rintro e w1 ⟨rfl, hk1⟩
  go_wp2_with fail
  refine (prime_c k _).mono ?_
  rintro e w2 ⟨rfl, hk2⟩
  go_wp2_with fail
  refine (of_c k b hb _).mono ?_
  rintro e w3 ⟨rfl, hk3⟩
  go_wp2_with fail
  refine (of_c k _ (by omega) _).mono ?_
  rintro e w4 ⟨rfl, hk4⟩
  go_wp2_with fail
  go_ret
  exact ⟨rfl, kept_trans hk1 (kept_trans hk2 (kept_trans hk3 hk4))⟩
theorem mul_bd {a b : Int} (h1 : 0 ≤ a) (h2 : a ≤ 998244352) (h3 : 0 ≤ b) (h4 : b ≤ 998244352) : 0 ≤ a * b ∧ a * b ≤ 996491786433269904 := by
  refine ⟨Int.mul_nonneg h1 h3, ?_⟩
  have := Int.mul_le_mul h2 h4 h3 (by decide)
  omega
theorem mul_c (k a b : Int) (ha : 0 ≤ a) (hb : 0 ≤ b) (w : World) : Calls Tryz.prog 103 #[.int .i64 k, .int .u64 a, .int .u64 b] w (Ret (.int .u64 (mulm k a b)) w) := by
  obtain ⟨h1, h2⟩ := of_bd k a
  obtain ⟨h3, h4⟩ := of_bd k b
  obtain ⟨h5, h6⟩ := mul_bd h1 h2 h3 h4
  rw [← mulm_is]
  go_enter Tryz.func103, Tryz.ntmps103
  go_wp2_with fail
  refine (of_c k a ha _).mono ?_
  rintro e w1 ⟨rfl, hk1⟩
  go_wp2_with fail
  refine (of_c k b hb _).mono ?_
  rintro e w2 ⟨rfl, hk2⟩
  go_wp2_with fail
  refine (of_c k _ h5 _).mono ?_
  rintro e w3 ⟨rfl, hk3⟩
  go_wp2_with fail
  go_ret
  exact ⟨rfl, kept_trans hk1 (kept_trans hk2 hk3)⟩
def PowInv (k a n b m o : Int) : Prop := 0 ≤ b ∧ 0 ≤ o ∧ of k o = o ∧ mulm k o (pw k b m) = pw k a n
theorem powInv_end {k a n b o : Int} (h : PowInv k a n b 0 o) : o = pw k a n := by
  obtain ⟨_, _, h1, h2⟩ := h
  rw [← h2, pw_zero]
  unfold mulm
  rw [of_mul_r, Int.mul_one, h1]
theorem powInv_even {k a n b m o : Int} (hm : 0 ≤ m) (h : PowInv k a n b m o) (he : m % 2 = 0) : PowInv k a n (mulm k b b) (m / 2) o := by
  obtain ⟨h0, h1, h2, h3⟩ := h
  refine ⟨(mulm_bd k b b).1, h1, h2, ?_⟩
  rw [← h3]
  congr 1
  have e : mulm k b b = pw k b 2 := by
    unfold mulm pw; rw [show (2 : Int).toNat = 2 from rfl, Int.pow_succ, Int.pow_succ, Int.pow_zero, Int.one_mul]
  rw [e, pw_mul k b (by decide) (by omega), show 2 * (m / 2) = m from by omega]
theorem powInv_odd {k a n b m o : Int} (hm : 0 ≤ m) (h : PowInv k a n b m o) (he : m % 2 = 1) : PowInv k a n (mulm k b b) (m / 2) (mulm k o b) := by
  obtain ⟨h0, h1, h2, h3⟩ := h
  have h' : PowInv k a n b (m - 1) (mulm k o b) := by
    refine ⟨h0, (mulm_bd k o b).1, of_mulm _ _ _, ?_⟩
    rw [← h3]
    have e : pw k b m = mulm k (pw k b 1) (pw k b (m - 1)) := by rw [← pw_add k b (by decide) (by omega), show 1 + (m - 1) = m from by omega]
    rw [e]
    unfold mulm
    rw [of_mul_l, of_mul_r, show pw k b 1 = of k b from by unfold pw; rw [show (1 : Int).toNat = 1 from rfl, Int.pow_succ, Int.pow_zero, Int.one_mul], Int.mul_assoc]
    rw [← of_mul_r k o, ← of_mul_r k o (of k b * _), of_mul_l]
  have := powInv_even (by omega) h' (by omega)
  rwa [show (m - 1) / 2 = m / 2 from by omega] at this
theorem powInv_start {k a n : Int} (ha : 0 ≤ a) : PowInv k a n a n (of k 1) := by
  refine ⟨ha, of_nonneg _ _, of_of _ _, ?_⟩
  unfold mulm; rw [of_mul_l, Int.one_mul, of_pw]
def PowFrame (k b m o : Int) (a' : Act) : Prop := ∃ u8 u9 u10 u11 u12 u13 u14 u15 u16 u17 u18 u19 u20 u21 u22 u23 u24 u25 : Value,
  a' = { tmps := #[.int .i64 k, .int .u64 b, .int .u64 m, undef, undef, undef, .int .u64 0, .int .u64 o, u8, u9, u10, u11, u12, u13, u14, u15, u16, u17, u18, u19, u20, u21, u22, u23, u24, u25], defers := [] }
theorem pow_c (k a n : Int) (ha : 0 ≤ a) (hn : 0 ≤ n) (hn2 : n ≤ 18446744073709551615) (w : World) : Calls Tryz.prog 205 #[.int .i64 k, .int .u64 a, .int .u64 n] w (Ret (.int .u64 (pw k a n)) w) := by
  go_enter Tryz.func205, Tryz.ntmps205
  go_wp2_with fail
  refine wp_scope_jumps 0 (fun a' w' => Kept w w' ∧ ∃ b m o : Int, PowFrame k b m o a' ∧ 0 ≤ m ∧ m ≤ 18446744073709551615 ∧ PowInv k a n b m o) (fun a' _ => (intOf (a'.tmps.getD 2 undef)).toNat) rfl ?_ ?_
  · go_wp2_with fail
    refine (of_c k 1 (by decide) _).mono ?_
    rintro e w1 ⟨rfl, hk1⟩
    have HI := powInv_start (k := k) (n := n) ha
    have HB := of_bd k 1
    by_cases hz : n = 0
    · subst hz
      go_wp2_with fail
      go_step3
      go_wp2_with fail
      simp only [Exit.jump]
      go_ret
      exact ⟨by rw [powInv_end HI]; rfl, hk1⟩
    · rcases (show n % 2 = 0 ∨ n % 2 = 1 from by omega) with he | he
      · have HB2 : bits .and .u64 n 1 = n % 2 := and_one_u64 n hn hn2
        have HB3 : ((n % 2 : Int) == 1) = false := by rw [he]; rfl
        have HI' := powInv_even hn HI he
        have hnz : (n == 0) = false := by simp [hz]
        go_wp2_with fail
        go_step3
        go_wp2_with fail
        refine (mul_c k a a ha ha _).mono ?_
        rintro e w2 ⟨rfl, hk2⟩
        go_wp2_with fail
        go_step3
        exact ⟨rfl, kept_trans hk1 hk2, _, _, _, ⟨_, _, _, _, _, _, _, _, _, _, _, _, _, _, _, _, _, _, rfl⟩, by omega, by omega, HI'⟩
      · have HB2 : bits .and .u64 n 1 = n % 2 := and_one_u64 n hn hn2
        have HB3 : ((n % 2 : Int) == 1) = true := by rw [he]; rfl
        have HI' := powInv_odd hn HI he
        have hnz : (n == 0) = false := by simp [hz]
        go_wp2_with fail
        go_step3
        go_wp2_with fail
        refine (mul_c k _ a HB.1 ha _).mono ?_
        rintro e w2 ⟨rfl, hk2⟩
        go_wp2_with fail
        refine (mul_c k a a ha ha _).mono ?_
        rintro e w3 ⟨rfl, hk3⟩
        go_wp2_with fail
        go_step3
        exact ⟨rfl, kept_trans hk1 (kept_trans hk2 hk3), _, _, _, ⟨_, _, _, _, _, _, _, _, _, _, _, _, _, _, _, _, _, _, rfl⟩, by omega, by omega, HI'⟩
  · rintro a' wr ⟨hk1, b, m, o, ⟨u8, u9, u10, u11, u12, u13, u14, u15, u16, u17, u18, u19, u20, u21, u22, u23, u24, u25, rfl⟩, hm, hm2, HI⟩
    have hb := HI.1
    have ho := HI.2.1
    by_cases hz : m = 0
    · subst hz
      go_wp2_with fail
      simp only [Exit.jump]
      go_ret
      exact ⟨by rw [powInv_end HI]; rfl, hk1⟩
    · rcases (show m % 2 = 0 ∨ m % 2 = 1 from by omega) with he | he
      · have HB2 : bits .and .u64 m 1 = m % 2 := and_one_u64 m hm hm2
        have HB3 : ((m % 2 : Int) == 1) = false := by rw [he]; rfl
        have HI' := powInv_even hm HI he
        have hnz : (m == 0) = false := by simp [hz]
        go_wp2_with fail
        refine (mul_c k b b hb hb _).mono ?_
        rintro e w2 ⟨rfl, hk2⟩
        go_wp2_with fail
        go_step3
        refine ⟨rfl, ⟨kept_trans hk1 hk2, _, _, _, ⟨_, _, _, _, _, _, _, _, _, _, _, _, _, _, _, _, _, _, rfl⟩, by omega, by omega, HI'⟩, ?_⟩
        simp [intOf]; omega
      · have HB2 : bits .and .u64 m 1 = m % 2 := and_one_u64 m hm hm2
        have HB3 : ((m % 2 : Int) == 1) = true := by rw [he]; rfl
        have HI' := powInv_odd hm HI he
        have hnz : (m == 0) = false := by simp [hz]
        go_wp2_with fail
        refine (mul_c k o b ho hb _).mono ?_
        rintro e w2 ⟨rfl, hk2⟩
        go_wp2_with fail
        refine (mul_c k b b hb hb _).mono ?_
        rintro e w3 ⟨rfl, hk3⟩
        go_wp2_with fail
        go_step3
        refine ⟨rfl, ⟨kept_trans hk1 (kept_trans hk2 hk3), _, _, _, ⟨_, _, _, _, _, _, _, _, _, _, _, _, _, _, _, _, _, _, rfl⟩, by omega, by omega, HI'⟩, ?_⟩
        simp [intOf]; omega
def hasInv (k a : Int) : Bool := !(of k a == 0)
theorem inv_c (k a : Int) (ha : 0 ≤ a) (w : World) : Calls Tryz.prog 161 #[.int .i64 k, .int .u64 a] w (Ret (.tuple #[.int .u64 (invm k a), .bool (hasInv k a)]) w) := by
  have h0 := of_bd k a
  by_cases hz : of k a = 0
  · have e1 : invm k a = 0 := by simp [invm, hz]
    have e2 : hasInv k a = false := by simp [hasInv, hz]
    rw [e1, e2]
    clear e1 e2
    go_enter Tryz.func161, Tryz.ntmps161
    go_wp2_with fail
    refine (of_c k a ha _).mono ?_
    rintro e w1 ⟨rfl, hk1⟩
    go_wp2_with fail
    go_ret2
    exact ⟨rfl, hk1⟩
  · have hp : pr k ≠ 0 := fun e => hz (of_zero e a)
    have hr := pr_range k
    have hb := pr_big hp
    have e1 : invm k a = pw k a (pr k - 2) := by simp [invm, hz]
    have e2 : hasInv k a = true := by simp [hasInv, hz]
    rw [e1, e2]
    clear e1 e2
    have hz' : (of k a == 0) = false := by simp [hz]
    go_enter Tryz.func161, Tryz.ntmps161
    go_wp2_with fail
    refine (of_c k a ha _).mono ?_
    rintro e w1 ⟨rfl, hk1⟩
    go_wp2_with fail
    refine (prime_c k _).mono ?_
    rintro e w2 ⟨rfl, hk2⟩
    go_wp2_with fail
    refine (pow_c k a _ ha (by omega) (by omega) _).mono ?_
    rintro e w3 ⟨rfl, hk3⟩
    go_wp2_with fail
    go_ret2
    exact ⟨rfl, kept_trans hk1 (kept_trans hk2 hk3)⟩
def hasRoot (k l : Int) : Bool := decide (pr k ≠ 0 ∧ 0 ≤ l ∧ l ≤ 12)
def rootv (k l : Int) : Int := if hasRoot k l then rootm k l.toNat else 0
theorem root_c (k l : Int) (hl : -9223372036854775808 ≤ l) (hl2 : l ≤ 9223372036854775807) (w : World) : Calls Tryz.prog 157 #[.int .i64 k, .int .i64 l] w (Ret (.tuple #[.int .u64 (rootv k l), .bool (hasRoot k l)]) w) := by
  have hr := pr_range k
  by_cases hz : pr k ≠ 0 ∧ 0 ≤ l ∧ l ≤ 12
  · obtain ⟨hp, h0, h1⟩ := hz
    have hb := pr_big hp
    have e1 : hasRoot k l = true := by simp [hasRoot, hp, h0, h1]
    have e2 : rootv k l = rootm k l.toNat := by simp [rootv, e1]
    rw [e1, e2]
    clear e1 e2
    have hpf : (pr k == 0) = false := by simp [hp]
    go_enter Tryz.func157, Tryz.ntmps157
    go_wp2_with fail
    refine (prime_c k _).mono ?_
    rintro e w1 ⟨rfl, hk1⟩
    go_wp2_with fail
    refine (prime_c k _).mono ?_
    rintro e w2 ⟨rfl, hk2⟩
    go_wp2_with fail
    have hq0 : 0 ≤ (pr k - 1) / 2 ^ l.toNat := Int.ediv_nonneg (by omega) (Int.le_of_lt (Int.pow_pos (by decide)))
    have hq1 : (pr k - 1) / 2 ^ l.toNat ≤ 998244352 := Int.le_trans (Int.ediv_le_self _ (by omega)) (by omega)
    refine (pow_c k 3 _ (by decide) hq0 (by omega) _).mono ?_
    rintro e w3 ⟨rfl, hk3⟩
    go_wp2_with fail
    go_ret2
    exact ⟨by rw [rootm_is]; rfl, kept_trans hk1 (kept_trans hk2 hk3)⟩
  · have e1 : hasRoot k l = false := by simp only [hasRoot, decide_eq_false_iff_not]; exact hz
    have e2 : rootv k l = 0 := by simp [rootv, e1]
    rw [e1, e2]
    clear e1 e2
    by_cases hp : pr k = 0
    · have hpf : (pr k == 0) = true := by simp [hp]
      clear hz
      go_enter Tryz.func157, Tryz.ntmps157
      go_wp2_with fail
      refine (prime_c k _).mono ?_
      rintro e w1 ⟨rfl, hk1⟩
      go_wp2_with fail
      go_ret2
      exact ⟨rfl, hk1⟩
    · have hpf : (pr k == 0) = false := by simp [hp]
      by_cases h0 : l < 0
      · clear hz
        go_enter Tryz.func157, Tryz.ntmps157
        go_wp2_with fail
        refine (prime_c k _).mono ?_
        rintro e w1 ⟨rfl, hk1⟩
        go_wp2_with fail
        go_ret2
        exact ⟨rfl, hk1⟩
      · have h1 : 12 < l := by
          rcases Int.lt_or_le 12 l with h | h
          · exact h
          · exact absurd ⟨hp, by omega, h⟩ hz
        clear hz
        go_enter Tryz.func157, Tryz.ntmps157
        go_wp2_with fail
        refine (prime_c k _).mono ?_
        rintro e w1 ⟨rfl, hk1⟩
        go_wp2_with fail
        go_ret2
        exact ⟨rfl, hk1⟩
end Go.Proofs.YtdejablhpljdfaaGreat
set_option linter.unusedVariables false
namespace BG
def sumTo : Nat → (Nat → Int) → Int
  | 0, _ => 0
  | n + 1, f => sumTo n f + f n
theorem sumTo_congr {n : Nat} {f g : Nat → Int} (h : ∀ i, i < n → f i = g i) : sumTo n f = sumTo n g := by
  induction n with
  | zero => rfl
  | succ n ih => simp only [sumTo]; rw [ih fun i hi => h i (by omega), h n (by omega)]
theorem Cong.sumTo {k : Int} {n : Nat} {f g : Nat → Int} (h : ∀ i, i < n → Cong k (f i) (g i)) : Cong k (sumTo n f) (sumTo n g) := by
  induction n with
  | zero => exact Cong.refl _ _
  | succ n ih => exact (ih fun i hi => h i (by omega)).add (h n (by omega))
theorem sumTo_zero {n : Nat} {f : Nat → Int} (h : ∀ i, i < n → f i = 0) : BG.sumTo n f = 0 := by
  induction n with
  | zero => rfl
  | succ n ih => simp only [BG.sumTo]; rw [ih fun i hi => h i (by omega), h n (by omega)]; rfl
theorem sumTo_add (n : Nat) (f g : Nat → Int) : BG.sumTo n (fun i => f i + g i) = BG.sumTo n f + BG.sumTo n g := by
  induction n with
  | zero => rfl
  | succ n ih => simp only [BG.sumTo]; rw [ih]; omega
theorem sumTo_mul (n : Nat) (c : Int) (f : Nat → Int) : BG.sumTo n (fun i => c * f i) = c * BG.sumTo n f := by
  induction n with
  | zero => simp [BG.sumTo]
  | succ n ih => simp only [BG.sumTo]; rw [ih, Int.mul_add]
theorem sumTo_mul_r (n : Nat) (c : Int) (f : Nat → Int) : BG.sumTo n (fun i => f i * c) = BG.sumTo n f * c := by
  induction n with
  | zero => simp [BG.sumTo]
  | succ n ih => simp only [BG.sumTo]; rw [ih, Int.add_mul]
theorem sumTo_swap (m n : Nat) (f : Nat → Nat → Int) : BG.sumTo m (fun i => BG.sumTo n (fun j => f i j)) = BG.sumTo n (fun j => BG.sumTo m (fun i => f i j)) := by
  induction m with
  | zero => exact (sumTo_zero fun i _ => rfl).symm
  | succ m ih => simp only [BG.sumTo]; rw [ih, sumTo_add]
theorem sumTo_append (m n : Nat) (f : Nat → Int) : BG.sumTo (m + n) f = BG.sumTo m f + BG.sumTo n (fun i => f (m + i)) := by
  induction n with
  | zero => simp [BG.sumTo]
  | succ n ih => rw [← Nat.add_assoc]; simp only [BG.sumTo]; rw [ih]; omega
theorem sumTo_two (n : Nat) (f : Nat → Int) : BG.sumTo (2 * n) f = BG.sumTo n (fun i => f (2 * i)) + BG.sumTo n (fun i => f (2 * i + 1)) := by
  induction n with
  | zero => rfl
  | succ n ih =>
    rw [show 2 * (n + 1) = 2 * n + 1 + 1 from by omega]
    simp only [BG.sumTo]
    rw [ih]
    omega
theorem sumTo_one {n : Nat} (t : Nat) (ht : t < n) (f : Nat → Int) (h : ∀ i, i < n → i ≠ t → f i = 0) : BG.sumTo n f = f t := by
  induction n with
  | zero => omega
  | succ n ih =>
    simp only [BG.sumTo]
    by_cases e : t = n
    · subst e
      rw [sumTo_zero fun i hi => h i (by omega) (by omega)]
      omega
    · rw [ih (by omega) fun i hi => h i (by omega), h n (by omega) (by omega)]
      omega
theorem mul4 (a b c d : Int) : (a * b) * (c * d) = (a * c) * (b * d) := by grind
structure RootOf (k : Int) (L : Nat) (w : Int) : Prop where
  one : Cong k (w ^ (2 ^ L)) 1
  neg : ∀ M, L = M + 1 → Cong k (w ^ (2 ^ M)) (-1)
theorem RootOf.of_neg {k : Int} {M : Nat} {w : Int} (h : Cong k (w ^ (2 ^ M)) (-1)) : RootOf k (M + 1) w := by
  refine ⟨?_, fun M' e => by cases e; exact h⟩
  rw [Nat.pow_succ, Int.pow_mul]
  exact (h.pow 2).trans (by show of k ((-1) ^ 2) = of k 1; rfl)
theorem RootOf.sq {k : Int} {L : Nat} {w : Int} (h : RootOf k (L + 1) w) : RootOf k L (w ^ 2) := by
  constructor
  · rw [← Int.pow_mul, ← Nat.pow_succ']; exact h.one
  · rintro M rfl
    rw [← Int.pow_mul, ← Nat.pow_succ']; exact h.neg _ rfl
theorem RootOf.period {k : Int} {L : Nat} {w : Int} (h : RootOf k L w) (q r : Nat) : Cong k (w ^ (2 ^ L * q + r)) (w ^ r) := by
  rw [Int.pow_add, Int.pow_mul]
  have e := (h.one.pow q).mul (Cong.refl k (w ^ r))
  rw [Int.one_pow, Int.one_mul] at e
  exact e
theorem RootOf.mod {k : Int} {L : Nat} {w : Int} (h : RootOf k L w) (s : Nat) : Cong k (w ^ s) (w ^ (s % 2 ^ L)) := by
  have := h.period (s / 2 ^ L) (s % 2 ^ L)
  rw [Nat.div_add_mod] at this
  exact this
def dft (k : Int) (n : Nat) (x : Nat → Int) (w : Int) (j : Nat) : Int := of k (sumTo n fun i => x i * w ^ (i * j))
theorem dft_cong {k : Int} {n : Nat} {x y : Nat → Int} {w v : Int} (h : ∀ i, i < n → Cong k (x i) (y i)) (e : Cong k w v) (j : Nat) : dft k n x w j = dft k n y v j :=
  Cong.sumTo fun i hi => (h i hi).mul (e.pow _)
def rev : Nat → Nat → Nat
  | 0, _ => 0
  | m + 1, i => 2 ^ m * (i % 2) + rev m (i / 2)
theorem rev_lt (m : Nat) : ∀ i, rev m i < 2 ^ m := by
  induction m with
  | zero => intro i; simp [rev]
  | succ m ih =>
    intro i
    have := ih (i / 2)
    rw [rev, Nat.pow_succ]
    rcases Nat.mod_two_eq_zero_or_one i with h | h <;> rw [h] <;> omega
theorem rev_two (m b : Nat) : rev (m + 1) (2 * b) = rev m b := by
  rw [rev, Nat.mul_mod_right, Nat.mul_zero, Nat.zero_add, Nat.mul_div_cancel_left b (by decide)]
theorem rev_two1 (m b : Nat) : rev (m + 1) (2 * b + 1) = 2 ^ m + rev m b := by
  rw [rev, show (2 * b + 1) % 2 = 1 from by omega, Nat.mul_one, show (2 * b + 1) / 2 = b from by omega]
theorem rev_top (m : Nat) : ∀ i, i < 2 ^ (m + 1) → rev (m + 1) i = 2 * rev m (i % 2 ^ m) + i / 2 ^ m := by
  induction m with
  | zero => intro i h; simp [rev]; simp at h; omega
  | succ m ih =>
    intro i h
    have hp : 0 < 2 ^ m := Nat.two_pow_pos m
    rw [rev, ih (i / 2) (by rw [Nat.pow_succ] at h; omega)]
    conv => rhs; rw [rev]
    have e1 : i % 2 ^ (m + 1) % 2 = i % 2 := by rw [Nat.pow_succ', Nat.mod_mul_right_mod]
    have e2 : i % 2 ^ (m + 1) / 2 = i / 2 % 2 ^ m := by rw [Nat.pow_succ', Nat.mod_mul_right_div_self]
    have e3 : i / 2 / 2 ^ m = i / 2 ^ (m + 1) := by rw [Nat.div_div_eq_div_mul, Nat.pow_succ']
    rw [e1, e2, e3, Nat.pow_succ]
    have : 2 ^ m * 2 * (i % 2) = 2 * (2 ^ m * (i % 2)) := by rw [Nat.mul_comm (2 ^ m) 2, Nat.mul_assoc]
    omega
theorem rev_rev (m : Nat) : ∀ i, i < 2 ^ m → rev m (rev m i) = i := by
  induction m with
  | zero => intro i h; simp at h; subst h; rfl
  | succ m ih =>
    intro i h
    have hp : 0 < 2 ^ m := Nat.two_pow_pos m
    rw [rev_top m _ (rev_lt _ i)]
    have hr := rev_lt m (i / 2)
    have e : rev (m + 1) i = 2 ^ m * (i % 2) + rev m (i / 2) := rfl
    rw [e, Nat.mul_add_mod, Nat.mod_eq_of_lt hr, Nat.mul_add_div hp, Nat.div_eq_of_lt hr, ih (i / 2) (by rw [Nat.pow_succ] at h; omega)]
    omega
def stage (k : Int) (half : Nat) (w : Int) (f : Nat → Int) (j : Nat) : Int :=
  if j % (2 * half) < half then of k (f j + f (j + half) * w ^ (j % (2 * half)))
  else of k (f (j - half) - f j * w ^ (j % (2 * half) - half))
def Stands (k : Int) (L s : Nat) (w : Int) (x : Nat → Int) (f : Nat → Int) : Prop :=
  ∀ b j, b < 2 ^ (L - s) → j < 2 ^ s → f (b * 2 ^ s + j) = of k (sumTo (2 ^ s) fun i => x (i * 2 ^ (L - s) + rev (L - s) b) * w ^ (2 ^ (L - s) * (i * j)))
theorem stands_start (k : Int) (L : Nat) (w : Int) (x f : Nat → Int) (h : ∀ b, b < 2 ^ L → f b = of k (x (rev L b))) : Stands k L 0 w x f := by
  intro b j hb hj
  have : j = 0 := by simpa using hj
  subst this
  simp [sumTo]
  exact h b (by simpa using hb)
theorem stands_step {k : Int} {L s : Nat} {w : Int} {x f : Nat → Int} (hw : RootOf k L w) (hs : s < L) (h : Stands k L s w x f) (v : Int) (hv : Cong k v (w ^ (2 ^ (L - s - 1)))) :
    Stands k L (s + 1) w x (stage k (2 ^ s) v f) := by
  obtain ⟨m, hm⟩ : ∃ m, L = s + 1 + m := ⟨L - (s + 1), by omega⟩
  have hm0 : L - s = m + 1 := by omega
  have hm1 : L - (s + 1) = m := by omega
  have hm2 : L - s - 1 = m := by omega
  have hneg : Cong k (w ^ (2 ^ m * 2 ^ s)) (-1) := by
    rw [← Nat.pow_add]; exact hw.neg (m + s) (by omega)
  have hone : ∀ q, Cong k (w ^ (2 ^ (m + 1) * (q * 2 ^ s))) 1 := by
    intro q
    have e : 2 ^ (m + 1) * (q * 2 ^ s) = 2 ^ L * q + 0 := by
      rw [hm, show s + 1 + m = (m + 1) + s from by omega, Nat.pow_add 2 (m + 1) s, Nat.mul_left_comm, Nat.mul_comm q]; rfl
    rw [e]
    have := hw.period q 0
    rwa [Int.pow_zero] at this
  intro b j hb hj
  rw [hm1] at hb
  rw [hm1]
  have hps : 0 < 2 ^ s := Nat.two_pow_pos s
  -- the two rows of half as many places
  have hlo : ∀ j', j' < 2 ^ s → f (2 * b * 2 ^ s + j') = of k (sumTo (2 ^ s) fun i => x (2 * i * 2 ^ m + rev m b) * w ^ (2 ^ m * (2 * i * j'))) := by
    intro j' hj'
    rw [h (2 * b) j' (by rw [hm0, Nat.pow_succ]; omega) hj', hm0]
    refine congrArg (of k) (sumTo_congr fun i _ => ?_)
    rw [rev_two, Nat.pow_succ, show i * (2 ^ m * 2) = 2 * i * 2 ^ m from by rw [Nat.mul_comm (2 ^ m), ← Nat.mul_assoc, Nat.mul_comm i], show 2 ^ m * 2 * (i * j') = 2 ^ m * (2 * i * j') from by rw [Nat.mul_assoc, ← Nat.mul_assoc 2]]
  have hhi : ∀ j', j' < 2 ^ s → f ((2 * b + 1) * 2 ^ s + j') = of k (sumTo (2 ^ s) fun i => x ((2 * i + 1) * 2 ^ m + rev m b) * w ^ (2 ^ m * (2 * i * j'))) := by
    intro j' hj'
    rw [h (2 * b + 1) j' (by rw [hm0, Nat.pow_succ]; omega) hj', hm0]
    refine congrArg (of k) (sumTo_congr fun i _ => ?_)
    rw [rev_two1, Nat.pow_succ, show i * (2 ^ m * 2) + (2 ^ m + rev m b) = (2 * i + 1) * 2 ^ m + rev m b from by rw [Nat.add_mul, Nat.mul_comm (2 ^ m) 2, ← Nat.mul_assoc, Nat.mul_comm i]; omega, show 2 ^ m * 2 * (i * j') = 2 ^ m * (2 * i * j') from by rw [Nat.mul_assoc, ← Nat.mul_assoc 2]]
  have hvp : ∀ q, Cong k (v ^ q) (w ^ (2 ^ m * q)) := by
    intro q; rw [Int.pow_mul, ← hm2]; exact hv.pow q
  rw [Nat.pow_succ] at hj
  have hmodj : (b * 2 ^ (s + 1) + j) % (2 * 2 ^ s) = j := by
    rw [Nat.pow_succ, Nat.mul_comm (2 ^ s) 2, Nat.mul_comm b, Nat.mul_add_mod, Nat.mod_eq_of_lt (by omega)]
  have hbb : b * 2 ^ (s + 1) = 2 * b * 2 ^ s := by rw [Nat.pow_succ, Nat.mul_comm (2 ^ s) 2, ← Nat.mul_assoc, Nat.mul_comm b]
  rw [show sumTo (2 ^ (s + 1)) = sumTo (2 * 2 ^ s) from by rw [Nat.pow_succ, Nat.mul_comm (2 ^ s) 2], sumTo_two]
  unfold stage
  rw [hmodj]
  by_cases hlt : j < 2 ^ s
  · rw [if_pos hlt, hbb, show 2 * b * 2 ^ s + j + 2 ^ s = (2 * b + 1) * 2 ^ s + j from by rw [Nat.add_mul]; omega, hlo j hlt, hhi j hlt]
    refine (cong_of k _).add (((cong_of k _).mul (hvp j)).trans ?_)
    rw [← sumTo_mul_r]
    refine Cong.sumTo fun i _ => ?_
    rw [Int.mul_assoc, ← Int.pow_add, show 2 ^ m * (2 * i * j) + 2 ^ m * j = 2 ^ m * ((2 * i + 1) * j) from by rw [← Nat.mul_add, Nat.add_mul, Nat.one_mul]]
    exact Cong.refl _ _
  · rw [if_neg hlt, hbb, show 2 * b * 2 ^ s + j - 2 ^ s = 2 * b * 2 ^ s + (j - 2 ^ s) from by omega, hlo (j - 2 ^ s) (by omega)]
    rw [show 2 * b * 2 ^ s + j = (2 * b + 1) * 2 ^ s + (j - 2 ^ s) from by rw [Nat.add_mul]; omega, hhi (j - 2 ^ s) (by omega)]
    obtain ⟨j', rfl⟩ : ∃ j', j = j' + 2 ^ s := ⟨j - 2 ^ s, by omega⟩
    rw [Nat.add_sub_cancel]
    rw [Int.sub_eq_add_neg]
    refine Cong.add ((cong_of k _).trans (Cong.sumTo fun i _ => ?_)) ?_
    · refine (Cong.refl _ _).mul ?_
      rw [show 2 ^ m * (2 * i * (j' + 2 ^ s)) = 2 ^ (m + 1) * (i * 2 ^ s) + 2 ^ m * (2 * i * j') from by rw [Nat.mul_add, Nat.mul_add, Nat.pow_succ, Nat.mul_assoc (2 ^ m) 2, ← Nat.mul_assoc 2]; omega]
      rw [Int.pow_add]
      have e := ((hone i).mul (Cong.refl k (w ^ (2 ^ m * (2 * i * j'))))).symm
      rw [Int.one_mul] at e
      exact e
    · rw [show ∀ a : Int, -a = (-1) * a from fun a => by omega]
      refine ((Cong.refl k (-1)).mul ((cong_of k _).mul (hvp j'))).trans ?_
      rw [← sumTo_mul_r, ← sumTo_mul]
      refine Cong.sumTo fun i _ => ?_
      rw [Int.mul_assoc, ← Int.pow_add, Int.mul_left_comm]
      refine (Cong.refl _ _).mul ?_
      rw [show 2 ^ m * ((2 * i + 1) * (j' + 2 ^ s)) = 2 ^ (m + 1) * (i * 2 ^ s) + 2 ^ m * 2 ^ s + (2 ^ m * (2 * i * j') + 2 ^ m * j') from by
        rw [Nat.pow_succ]; grind]
      rw [Int.pow_add _ (_ + _) (_ + _), Int.pow_add _ (2 ^ (m + 1) * _)]
      have e := (((hone i).mul hneg).mul (Cong.refl k (w ^ (2 ^ m * (2 * i * j') + 2 ^ m * j')))).symm
      rw [Int.one_mul] at e
      exact e
theorem stands_end {k : Int} {L : Nat} {w : Int} {x f : Nat → Int} (h : Stands k L L w x f) (j : Nat) (hj : j < 2 ^ L) : f j = dft k (2 ^ L) x w j := by
  have e := h 0 j (by simp) hj
  rw [Nat.zero_mul, Nat.zero_add] at e
  rw [e]
  refine congrArg (of k) (sumTo_congr fun i _ => ?_)
  rw [Nat.sub_self, Nat.pow_zero, Nat.mul_one, Nat.one_mul]
  rfl
theorem geometric {k : Int} : ∀ (L : Nat) (w : Int) (d : Nat), RootOf k L w → d % 2 ^ L ≠ 0 → Cong k (sumTo (2 ^ L) fun j => w ^ (d * j)) 0 := by
  intro L
  induction L with
  | zero => intro w d _ h; exact absurd (Nat.mod_one d) (by simpa using h)
  | succ L ih =>
    intro w d hw h
    rw [Nat.pow_succ, Nat.mul_two, sumTo_append, ← sumTo_add]
    rcases Nat.mod_two_eq_zero_or_one d with hd | hd
    · obtain ⟨d', rfl⟩ : ∃ d', d = 2 * d' := ⟨d / 2, by omega⟩
      have h' : d' % 2 ^ L ≠ 0 := by
        intro e; apply h
        rw [Nat.pow_succ', Nat.mul_mod_mul_left, e]
      have e : Cong k (sumTo (2 ^ L) fun i => w ^ (2 * d' * i) + w ^ (2 * d' * (2 ^ L + i))) (2 * sumTo (2 ^ L) fun j => (w ^ 2) ^ (d' * j)) := by
        rw [← sumTo_mul]
        refine Cong.sumTo fun i _ => ?_
        rw [← Int.pow_mul, show ∀ a : Int, 2 * a = a + a from fun a => by omega, ← Nat.mul_assoc]
        refine (Cong.refl _ _).add ?_
        rw [show 2 * d' * (2 ^ L + i) = 2 ^ (L + 1) * d' + 2 * d' * i from by rw [Nat.pow_succ]; grind]
        exact hw.period _ _
      have := (Cong.refl k 2).mul (ih (w ^ 2) d' hw.sq h')
      rw [Int.mul_zero] at this
      exact e.trans this
    · refine (Cong.sumTo (g := fun _ => 0) fun i _ => ?_).trans (by rw [sumTo_zero fun _ _ => rfl]; exact Cong.refl _ _)
      rw [Nat.mul_add, Int.pow_add]
      have hodd : Cong k (w ^ (d * 2 ^ L)) (-1) := by
        rw [Nat.mul_comm, Int.pow_mul]
        refine ((hw.neg L rfl).pow d).trans ?_
        obtain ⟨q, rfl⟩ : ∃ q, d = 2 * q + 1 := ⟨d / 2, by omega⟩
        rw [Int.pow_succ, Int.pow_mul, show (-1 : Int) ^ 2 = 1 from rfl, Int.one_pow]
        exact Cong.refl _ _
      have e := (Cong.refl k (w ^ (d * i))).add (hodd.mul (Cong.refl k (w ^ (d * i))))
      refine e.trans ?_
      rw [show w ^ (d * i) + -1 * w ^ (d * i) = 0 from by omega]
      exact Cong.refl _ _
theorem RootOf.inv {k : Int} {L : Nat} {w v : Int} (hw : RootOf k L w) (hv : Cong k (w * v) 1) : RootOf k L v := by
  have hp : ∀ n, Cong k (w ^ n * v ^ n) 1 := by
    intro n; rw [← Int.mul_pow]; have := hv.pow n; rwa [Int.one_pow] at this
  constructor
  · have := (hw.one.symm.mul (Cong.refl k (v ^ 2 ^ L))).trans (hp _)
    rwa [Int.one_mul] at this
  · intro M hM
    have h1 := ((hw.neg M hM).symm.mul (Cong.refl k (v ^ 2 ^ M))).trans (hp _)
    have h2 := (Cong.refl k (-1)).mul h1
    rw [← Int.mul_assoc, show (-1 : Int) * -1 = 1 from rfl, Int.one_mul] at h2
    exact h2
theorem back_one {k : Int} {L : Nat} {w v : Int} (hw : RootOf k L w) (hv : Cong k (w * v) 1) (x : Nat → Int) (i : Nat) (hi : i < 2 ^ L) :
    Cong k (sumTo (2 ^ L) fun j => dft k (2 ^ L) x w j * v ^ (j * i)) (((2 ^ L : Nat) : Int) * x i) := by
  have hz : ∀ m j, Cong k (w ^ (m * j) * v ^ (j * i)) (w ^ ((m + (2 ^ L - 1) * i) * j)) := by
    intro m j
    have hpos : 0 < 2 ^ L := Nat.two_pow_pos L
    have e1 : Cong k (w ^ (2 ^ L - 1)) v := by
      have a1 : Cong k (w ^ (2 ^ L - 1) * (w * v)) (w ^ (2 ^ L - 1)) := by
        have := (Cong.refl k (w ^ (2 ^ L - 1))).mul hv; rwa [Int.mul_one] at this
      have a2 : Cong k (w ^ (2 ^ L - 1) * (w * v)) v := by
        rw [← Int.mul_assoc, ← Int.pow_succ, show Nat.succ (2 ^ L - 1) = 2 ^ L from by omega]
        have := hw.one.mul (Cong.refl k v); rwa [Int.one_mul] at this
      exact a1.symm.trans a2
    rw [Nat.add_mul, Int.pow_add]
    refine (Cong.refl _ _).mul ?_
    rw [Nat.mul_comm j i, Nat.mul_assoc, Int.pow_mul (a := w)]
    exact (e1.pow _).symm
  have e1 : Cong k (sumTo (2 ^ L) fun j => dft k (2 ^ L) x w j * v ^ (j * i)) (sumTo (2 ^ L) fun j => sumTo (2 ^ L) fun m => x m * w ^ ((m + (2 ^ L - 1) * i) * j)) := by
    refine Cong.sumTo fun j _ => ?_
    refine ((cong_of k _).mul (Cong.refl _ _)).trans ?_
    rw [← sumTo_mul_r]
    refine Cong.sumTo fun m _ => ?_
    rw [Int.mul_assoc]
    exact (Cong.refl _ _).mul (hz m j)
  refine e1.trans ?_
  rw [sumTo_swap]
  have e2 : Cong k (sumTo (2 ^ L) fun m => sumTo (2 ^ L) fun j => x m * w ^ ((m + (2 ^ L - 1) * i) * j)) (sumTo (2 ^ L) fun m => if m = i then ((2 ^ L : Nat) : Int) * x i else 0) := by
    refine Cong.sumTo fun m hm => ?_
    rw [sumTo_mul]
    have hpos : 0 < 2 ^ L := Nat.two_pow_pos L
    have hmod : (m + (2 ^ L - 1) * i) % 2 ^ L = (m + (2 ^ L - i)) % 2 ^ L := by
      rcases Nat.eq_zero_or_pos i with rfl | hi0
      · rw [Nat.mul_zero, Nat.sub_zero, Nat.add_mod_right]; rfl
      · have : m + (2 ^ L - 1) * i = m + (2 ^ L - i) + 2 ^ L * (i - 1) := by
          rw [Nat.sub_mul, Nat.one_mul, Nat.mul_sub, Nat.mul_one]
          have : 2 ^ L ≤ 2 ^ L * i := Nat.le_mul_of_pos_right _ hi0
          omega
        rw [this, Nat.add_mul_mod_self_left]
    by_cases e : m = i
    · subst e
      rw [if_pos rfl, Int.mul_comm]
      refine Cong.mul ?_ (Cong.refl _ _)
      have h0 : (m + (2 ^ L - 1) * m) % 2 ^ L = 0 := by rw [hmod, show m + (2 ^ L - m) = 2 ^ L from by omega, Nat.mod_self]
      have : Cong k (sumTo (2 ^ L) fun j => w ^ ((m + (2 ^ L - 1) * m) * j)) (sumTo (2 ^ L) fun _ => 1) := by
        refine Cong.sumTo fun j _ => ?_
        rw [Int.pow_mul]
        have a := (hw.mod (m + (2 ^ L - 1) * m)).pow j
        rw [h0, Int.pow_zero, Int.one_pow] at a
        exact a
      refine this.trans ?_
      have hc : ∀ n : Nat, sumTo n (fun _ => 1) = (n : Int) := by
        intro n; induction n with
        | zero => rfl
        | succ n ih => simp only [sumTo]; rw [ih]; omega
      rw [hc]
      exact Cong.refl _ _
    · rw [if_neg e]
      have hne : (m + (2 ^ L - 1) * i) % 2 ^ L ≠ 0 := by
        rw [hmod]
        by_cases hmi : m < i
        · rw [Nat.mod_eq_of_lt (by omega)]; omega
        · rw [show m + (2 ^ L - i) = (m - i) + 2 ^ L from by omega, Nat.add_mod_right, Nat.mod_eq_of_lt (by omega)]; omega
      have := (Cong.refl k (x m)).mul (geometric L w _ hw hne)
      rwa [Int.mul_zero] at this
  refine e2.trans ?_
  rw [sumTo_one i hi _ fun m _ hne => if_neg hne, if_pos rfl]
  exact Cong.refl _ _
def idft (k : Int) (n : Nat) (y : Nat → Int) (w : Int) (j : Nat) : Int := mulm k (dft k n y (invm k w) j) (invm k (n : Nat))
theorem idft_dft {k : Int} {L : Nat} {w : Int} (hw : RootOf k L w) (hw0 : of k w ≠ 0) (hn : of k ((2 ^ L : Nat) : Int) ≠ 0) (x : Nat → Int) (i : Nat) (hi : i < 2 ^ L) :
    idft k (2 ^ L) (fun j => dft k (2 ^ L) x w j) w i = of k (x i) := by
  have hp : pr k ≠ 0 := fun e => hw0 (of_zero e _)
  have hv : Cong k (w * invm k w) 1 := by unfold Cong; rw [mul_invm hw0, of_one hp]
  have h1 := back_one hw hv x i hi
  have h2 : Cong k (((2 ^ L : Nat) : Int) * x i * invm k ((2 ^ L : Nat) : Int)) (x i) := by
    rw [Int.mul_comm (((2 ^ L : Nat) : Int)), Int.mul_assoc]
    have : Cong k (((2 ^ L : Nat) : Int) * invm k ((2 ^ L : Nat) : Int)) 1 := by unfold Cong; rw [mul_invm hn, of_one hp]
    have := (Cong.refl k (x i)).mul this
    rwa [Int.mul_one] at this
  unfold idft mulm
  refine Cong.trans ?_ h2
  exact ((cong_of k _).trans h1).mul (Cong.refl _ _)
def cyc (n : Nat) (a b : Nat → Int) (t : Nat) : Int := sumTo n fun i => sumTo n fun j => if (i + j) % n = t then a i * b j else 0
theorem dft_cyc {k : Int} {L : Nat} {w : Int} (hw : RootOf k L w) (a b : Nat → Int) (j : Nat) :
    dft k (2 ^ L) (cyc (2 ^ L) a b) w j = mulm k (dft k (2 ^ L) a w j) (dft k (2 ^ L) b w j) := by
  have hpos : 0 < 2 ^ L := Nat.two_pow_pos L
  unfold mulm
  refine Cong.trans ?_ ((cong_of k _).mul (cong_of k _)).symm
  have e1 : sumTo (2 ^ L) (fun t => cyc (2 ^ L) a b t * w ^ (t * j)) = sumTo (2 ^ L) fun i => sumTo (2 ^ L) fun i' => a i * b i' * w ^ ((i + i') % 2 ^ L * j) := by
    have : ∀ t, cyc (2 ^ L) a b t * w ^ (t * j) = sumTo (2 ^ L) fun i => sumTo (2 ^ L) fun i' => if (i + i') % 2 ^ L = t then a i * b i' * w ^ (t * j) else 0 := by
      intro t
      unfold cyc
      rw [← sumTo_mul_r]
      refine sumTo_congr fun i _ => ?_
      rw [← sumTo_mul_r]
      refine sumTo_congr fun i' _ => ?_
      split
      · rfl
      · rw [Int.zero_mul]
    rw [sumTo_congr fun t _ => this t, sumTo_swap]
    refine sumTo_congr fun i _ => ?_
    rw [sumTo_swap]
    refine sumTo_congr fun i' _ => ?_
    rw [sumTo_one ((i + i') % 2 ^ L) (Nat.mod_lt _ hpos) _ fun t _ hne => if_neg (fun e => hne e.symm), if_pos rfl]
  rw [e1, ← sumTo_mul_r]
  refine Cong.sumTo fun i _ => ?_
  rw [← sumTo_mul]
  refine Cong.sumTo fun i' _ => ?_
  rw [mul4]
  refine (Cong.refl _ _).mul ?_
  rw [← Int.pow_add, ← Nat.add_mul, Int.pow_mul, Int.pow_mul]
  exact ((hw.mod _).pow j).symm
theorem idft_mul {k : Int} {L : Nat} {w : Int} (hw : RootOf k L w) (hw0 : of k w ≠ 0) (hn : of k ((2 ^ L : Nat) : Int) ≠ 0) (a b : Nat → Int) (i : Nat) (hi : i < 2 ^ L) :
    idft k (2 ^ L) (fun j => mulm k (dft k (2 ^ L) a w j) (dft k (2 ^ L) b w j)) w i = of k (cyc (2 ^ L) a b i) := by
  rw [← idft_dft hw hw0 hn _ i hi]
  unfold idft
  rw [dft_cong (y := fun j => dft k (2 ^ L) (cyc (2 ^ L) a b) w j) (fun j _ => by rw [dft_cyc hw]; exact Cong.refl _ _) (Cong.refl _ _)]
end BG
namespace Go.Proofs.YtdejablhpljdfaaGreat
open Go.RowKit BG
attribute [local go_sem ↓] Go.wp_at_zero Go.wp_at_succ
set_option linter.unusedVariables false
def hasLog (n : Int) : Bool := (List.range 13).any fun l => n == ((2 ^ l : Nat) : Int)
def lgv (n : Int) : Nat := ((List.range 13).find? fun l => n == ((2 ^ l : Nat) : Int)).getD 0
theorem log_pow (l : Nat) (h : l ≤ 12) : hasLog ((2 ^ l : Nat) : Int) = true ∧ lgv ((2 ^ l : Nat) : Int) = l := by
  have : l = 0 ∨ l = 1 ∨ l = 2 ∨ l = 3 ∨ l = 4 ∨ l = 5 ∨ l = 6 ∨ l = 7 ∨ l = 8 ∨ l = 9 ∨ l = 10 ∨ l = 11 ∨ l = 12 := by omega
  rcases this with rfl | rfl | rfl | rfl | rfl | rfl | rfl | rfl | rfl | rfl | rfl | rfl | rfl <;> exact ⟨by decide, by decide⟩
theorem log_none {n : Int} (h : hasLog n = false) : (∀ l : Nat, l ≤ 12 → n ≠ ((2 ^ l : Nat) : Int)) ∧ lgv n = 0 := by
  have h1 : ∀ l : Nat, l < 13 → (n == ((2 ^ l : Nat) : Int)) = false := by
    intro l hl
    unfold hasLog at h
    rw [List.any_eq_false] at h
    have := h l (List.mem_range.2 hl)
    simpa using this
  refine ⟨fun l hl => by have := h1 l (by omega); simpa using this, ?_⟩
  unfold lgv
  rw [List.find?_eq_none.2 fun l hl => by rw [h1 l (List.mem_range.1 hl)]; decide]
  rfl
theorem log_some {n : Int} (h : hasLog n = true) : lgv n ≤ 12 ∧ n = ((2 ^ lgv n : Nat) : Int) := by
  unfold hasLog at h
  rw [List.any_eq_true] at h
  obtain ⟨l, hl, he⟩ := h
  have hl := List.mem_range.1 hl
  have e : n = ((2 ^ l : Nat) : Int) := by simpa using he
  have := (log_pow l (by omega)).2
  rw [← e] at this
  rw [this]
  exact ⟨by omega, e⟩
theorem shl_at (l : Nat) (h : l ≤ 12) : wrap64 ((2 : Int) ^ l) = ((2 ^ l : Nat) : Int) := by
  have : l = 0 ∨ l = 1 ∨ l = 2 ∨ l = 3 ∨ l = 4 ∨ l = 5 ∨ l = 6 ∨ l = 7 ∨ l = 8 ∨ l = 9 ∨ l = 10 ∨ l = 11 ∨ l = 12 := by omega
  rcases this with rfl | rfl | rfl | rfl | rfl | rfl | rfl | rfl | rfl | rfl | rfl | rfl | rfl <;> (unfold wrap64; decide)
abbrev Ltuple (n : Int) : Value := .tuple #[.int .i64 ((lgv n : Nat) : Int), .bool (hasLog n)]
theorem log_c (n : Int) (w : World) : Calls Tryz.prog 54 #[.int .i64 n] w (Ret (Ltuple n) w) := by
  unfold Ltuple
  go_enter Tryz.func54, Tryz.ntmps54
  go_wp2_with fail
  go_loopw [5] (fun i wr => ∃ l : Nat, l ≤ 13 ∧ i = .int .i64 l ∧ Kept w wr ∧ Hid (∀ q : Nat, q < l → n ≠ ((2 ^ q : Nat) : Int))) (fun i _ => 13 - (intOf i).toNat)
  case atStart => exact ⟨0, Nat.zero_le _, rfl, kept_refl _, fun q hq => absurd hq (Nat.not_lt_zero q)⟩
  case round =>
    obtain ⟨l, hl, rfl, hk, HQ⟩ := hrel
    by_cases hlt : l < 13
    · have hs := shl_at l (by omega)
      have hp := log_pow l (by omega)
      generalize hN : ((2 ^ l : Nat) : Int) = N at *
      have HN := Lib.hid hN
      clear hN
      by_cases he : n = N
      · subst he
        rw [hp.1, hp.2]
        clear hp
        go_wp2_with fail
        exact bodyPost_ret (v := .tuple #[.int .i64 l, .bool true]) (by simp [results, Tryz.results54, go_sem]) rfl ⟨rfl, hk⟩
      · clear hp
        have HE := Lib.hid he
        have hb : ¬ n = N := he
        clear he
        go_wp2_with fail
        exact ⟨⟨l + 1, by omega, by go_num, hk, fun q hq => by
          rcases Nat.lt_or_ge q l with h | h
          · exact HQ q h
          · obtain rfl : q = l := by omega
            rw [HN.out]; exact HE.out⟩, by simp [intOf]; omega⟩
    · obtain rfl : l = 13 := by omega
      have hno : hasLog n = false := by
        cases h : hasLog n
        · rfl
        · obtain ⟨h1, h2⟩ := log_some h
          exact absurd h2 (HQ _ (by omega))
      have HNO := Lib.hid hno
      clear hno
      go_wp2_with fail
      exact bodyPost_ret (v := .tuple #[.int .i64 0, .bool false]) (by simp [results, Tryz.results54, go_sem]) rfl ⟨by rw [HNO.out, (log_none HNO.out).2]; rfl, hk⟩
def amiss (k n : Int) : Int := if pr k = 0 then 20 else if hasLog n then 0 else 21
theorem check_c (k n : Int) (w : World) : Calls Tryz.prog 156 #[.int .i64 k, .int .i64 n] w (Ret (.int .i64 (amiss k n)) w) := by
  unfold amiss
  have P := prime_c k
  by_cases hp : pr k = 0
  · rw [if_pos hp]
    rw [hp] at P
    clear hp
    go_enter Tryz.func156, Tryz.ntmps156
    go_wp2_with fail
    refine (P _).mono ?_
    rintro e w1 ⟨rfl, hk1⟩
    go_wp2_with fail
    go_ret
    exact ⟨rfl, hk1⟩
  · rw [if_neg hp]
    have hb := (pr_range k).1
    generalize pr k = p at *
    have L := log_c n
    unfold Ltuple at L
    generalize hasLog n = b at *
    generalize lgv n = l at *
    cases b
    · simp only [Bool.false_eq_true, if_false]
      go_enter Tryz.func156, Tryz.ntmps156
      go_wp2_with fail
      refine (P _).mono ?_
      rintro e w1 ⟨rfl, hk1⟩
      go_wp2_with fail
      refine (L _).mono ?_
      rintro e w2 ⟨rfl, hk2⟩
      go_wp2_with fail
      go_ret
      exact ⟨rfl, kept_trans hk1 hk2⟩
    · simp only [if_true]
      go_enter Tryz.func156, Tryz.ntmps156
      go_wp2_with fail
      refine (P _).mono ?_
      rintro e w1 ⟨rfl, hk1⟩
      go_wp2_with fail
      refine (L _).mono ?_
      rintro e w2 ⟨rfl, hk2⟩
      go_wp2_with fail
      go_ret
      exact ⟨rfl, kept_trans hk1 hk2⟩
end Go.Proofs.YtdejablhpljdfaaGreat
namespace Go.Proofs.YtdejablhpljdfaaGreat
open Go.RowKit BG
attribute [local go_sem ↓] Go.wp_at_zero Go.wp_at_succ
set_option linter.unusedVariables false
def NN (xs : List Int) : Prop := ∀ j, 0 ≤ nth xs j
theorem nn_mk {n : Nat} {f : Nat → Int} (h : ∀ j, j < n → 0 ≤ f j) : NN (mk n f) := by
  intro j
  by_cases hj : j < n
  · rw [nth_mk hj]; exact h j hj
  · unfold nth; rw [List.getD_eq_getElem?_getD, List.getElem?_eq_none (by rw [mk_length]; omega)]; exact Int.le_refl 0
theorem info_u64n : (Tryz.prog.info? 108).map (fun i => (i.zero, i.size, i.bytes)) = some (some (.int .u64 0), 1, 8) := by kernel_rfl
theorem and_one (a : Int) (h0 : 0 ≤ a) (h1 : a < 8192) : bits .and .i64 a 1 = a % 2 := by
  have := bits_mask .i64 62 (by decide) (fun n h0 h1 => by rw [IntKind.wrap_i64]; omega) 1 (by decide) a h0 (by omega)
  simpa using this
theorem or_bit (x y : Int) (h0 : 0 ≤ x) (h1 : x < 8192) (h2 : 0 ≤ y) (h3 : y < 2) : bits .or .i64 (x * 2) y = x * 2 + y := 
  bits_join .i64 62 (by decide) (fun n h0 h1 => by rw [IntKind.wrap_i64]; omega) 1 (x * 2) y (by omega) (by omega) (by omega) h2 (by omega) (by omega)
theorem order_c (i L : Nat) (hL : L ≤ 12) (hi : i < 2 ^ L) (w : World) : Calls Tryz.prog 206 #[.int .i64 i, .int .i64 L] w (Ret (.int .i64 ((rev L i : Nat) : Int)) w) := by
  have hpL : 2 ^ L ≤ 2 ^ 12 := Nat.pow_le_pow_right (by decide) hL
  have HI := Lib.hid hi
  clear hi
  go_enter Tryz.func206, Tryz.ntmps206
  go_wp2_with fail
  go_loopw [0, 5, 7] (fun a o c wr => ∃ t : Nat, t ≤ L ∧ c = .int .i64 t ∧ a = .int .i64 ((i / 2 ^ t : Nat) : Int) ∧ o = .int .i64 ((rev t (i % 2 ^ t) : Nat) : Int) ∧ Kept w wr) (fun _ _ c _ => L - (intOf c).toNat)
  case atStart => exact ⟨0, Nat.zero_le _, rfl, by simp, by simp [rev], kept_refl _⟩
  case round =>
    obtain ⟨t, ht, rfl, rfl, rfl, hk⟩ := hrel
    by_cases hlt : t < L
    · have h1 := rev_lt t (i % 2 ^ t)
      have h2 : 2 ^ t ≤ 2 ^ 12 := Nat.pow_le_pow_right (by decide) (by omega)
      have h3 : i / 2 ^ t ≤ i := Nat.div_le_self _ _
      have h4 : rev (t + 1) (i % 2 ^ (t + 1)) = 2 * rev t (i % 2 ^ t) + i / 2 ^ t % 2 := by
        rw [rev_top t _ (Nat.mod_lt _ (Nat.two_pow_pos _)), Nat.mod_mod_of_dvd _ ⟨2, Nat.pow_succ _ _⟩, Nat.pow_succ, Nat.mod_mul_right_div_self]
      have h5 : i / 2 ^ (t + 1) = i / 2 ^ t / 2 := by rw [Nat.pow_succ, Nat.div_div_eq_div_mul]
      have hia := HI.out
      generalize i / 2 ^ t = a at *
      generalize rev t (i % 2 ^ t) = o at *
      have ho : o < 4096 := by omega
      have haa : a < 4096 := by omega
      clear h1 h2 h3 hia hpL
      have H4 := Lib.hid h4
      have H5 := Lib.hid h5
      clear h4 h5
      go_wp2_with fail
      exact ⟨⟨t + 1, by omega, by go_num, by rw [H5.out, Int.natCast_ediv]; rfl, by rw [and_one _ (by omega) (by omega), or_bit _ _ (by omega) (by omega) (by omega) (by omega), H4.out]; congr 1; omega, hk⟩, by simp [intOf]; omega⟩
    · obtain rfl : t = L := by omega
      have e : i % 2 ^ t = i := Nat.mod_eq_of_lt HI.out
      rw [e]
      go_wp2_with fail
      go_ret
      exact ⟨rfl, hk⟩
end Go.Proofs.YtdejablhpljdfaaGreat
