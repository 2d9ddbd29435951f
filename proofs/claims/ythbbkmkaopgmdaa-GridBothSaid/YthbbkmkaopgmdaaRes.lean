/-
  Residues modulo the three primes, as plain functions on Int: what layer 1 of the program computes, and the laws of it.
-/
import Derived.Test.YthbbkmkaopgmdaaNum
set_option linter.unusedVariables false
namespace BG

/-- Prime number k; 0 of another k. -/
def pr (k : Int) : Int := if k = 0 then 998244353 else if k = 1 then 167772161 else if k = 2 then 469762049 else 0
theorem pr0 : pr 0 = 998244353 := by simp [pr]
theorem pr1 : pr 1 = 167772161 := by simp [pr]
theorem pr2 : pr 2 = 469762049 := by simp [pr]
theorem pr_out {k : Int} (h : k < 0 ∨ 3 ≤ k) : pr k = 0 := by unfold pr; rw [if_neg (by omega), if_neg (by omega), if_neg (by omega)]
theorem pr_cases (k : Int) : (k = 0 ∧ pr k = 998244353) ∨ (k = 1 ∧ pr k = 167772161) ∨ (k = 2 ∧ pr k = 469762049) ∨ ((k < 0 ∨ 3 ≤ k) ∧ pr k = 0) := by
  unfold pr
  by_cases h0 : k = 0
  · simp [h0]
  by_cases h1 : k = 1
  · simp [h1]
  by_cases h2 : k = 2
  · simp [h2]
  · rw [if_neg h0, if_neg h1, if_neg h2]; omega
theorem pr_range (k : Int) : 0 ≤ pr k ∧ pr k ≤ 998244353 := by have := pr_cases k; omega
theorem pr_big {k : Int} (h : pr k ≠ 0) : 167772161 ≤ pr k := by have := pr_cases k; omega
theorem pr_prime {k : Int} (h : pr k ≠ 0) : IsP (pr k).toNat := by
  rcases pr_cases k with ⟨_, e⟩ | ⟨_, e⟩ | ⟨_, e⟩ | ⟨_, e⟩
  · rw [e]; exact prime0
  · rw [e]; exact prime1
  · rw [e]; exact prime2
  · exact absurd e h

/-- A number modulo prime k. -/
def of (k a : Int) : Int := if pr k = 0 then 0 else a % pr k
theorem of_zero {k : Int} (h : pr k = 0) (a : Int) : of k a = 0 := by simp [of, h]
theorem of_eq {k : Int} (h : pr k ≠ 0) (a : Int) : of k a = a % pr k := by simp [of, h]
theorem of_nonneg (k a : Int) : 0 ≤ of k a := by
  have := pr_range k
  unfold of; split
  · exact Int.le_refl 0
  · exact Int.emod_nonneg _ (by assumption)
theorem of_lt {k : Int} (h : pr k ≠ 0) (a : Int) : of k a < pr k := by
  have := pr_range k
  rw [of_eq h]; exact Int.emod_lt_of_pos _ (by omega)
theorem of_le (k a : Int) : of k a ≤ 998244352 := by
  by_cases h : pr k = 0
  · rw [of_zero h]; omega
  · have := of_lt h a; have := pr_range k; omega
theorem of_bd (k a : Int) : 0 ≤ of k a ∧ of k a ≤ 998244352 := ⟨of_nonneg k a, of_le k a⟩
/-- Two numbers are the same modulo prime k. -/
def Cong (k a b : Int) : Prop := of k a = of k b
theorem Cong.refl (k a : Int) : Cong k a a := rfl
theorem Cong.symm {k a b : Int} (h : Cong k a b) : Cong k b a := Eq.symm h
theorem Cong.trans {k a b c : Int} (h : Cong k a b) (h' : Cong k b c) : Cong k a c := Eq.trans h h'
theorem cong_of (k a : Int) : Cong k (of k a) a := by
  unfold Cong
  by_cases h : pr k = 0
  · rw [of_zero h, of_zero h]
  · rw [of_eq h, of_eq h, Int.emod_emod]
theorem of_of (k a : Int) : of k (of k a) = of k a := cong_of k a
theorem Cong.add {k a b c d : Int} (h : Cong k a b) (h' : Cong k c d) : Cong k (a + c) (b + d) := by
  unfold Cong at *
  by_cases hp : pr k = 0
  · rw [of_zero hp, of_zero hp]
  · rw [of_eq hp, of_eq hp] at *
    rw [Int.add_emod, h, h', ← Int.add_emod]
theorem Cong.mul {k a b c d : Int} (h : Cong k a b) (h' : Cong k c d) : Cong k (a * c) (b * d) := by
  unfold Cong at *
  by_cases hp : pr k = 0
  · rw [of_zero hp, of_zero hp]
  · rw [of_eq hp, of_eq hp] at *
    rw [Int.mul_emod, h, h', ← Int.mul_emod]
theorem Cong.sub {k a b c d : Int} (h : Cong k a b) (h' : Cong k c d) : Cong k (a - c) (b - d) := by
  unfold Cong at *
  by_cases hp : pr k = 0
  · rw [of_zero hp, of_zero hp]
  · rw [of_eq hp, of_eq hp] at *
    rw [Int.sub_emod, h, h', ← Int.sub_emod]
theorem Cong.pow {k a b : Int} (h : Cong k a b) (n : Nat) : Cong k (a ^ n) (b ^ n) := by
  induction n with
  | zero => rw [Int.pow_zero, Int.pow_zero]; exact Cong.refl _ _
  | succ n ih => rw [Int.pow_succ, Int.pow_succ]; exact ih.mul h
theorem cong_pr (k a b : Int) : Cong k (a + pr k * b) a := by
  unfold Cong
  by_cases hp : pr k = 0
  · rw [of_zero hp, of_zero hp]
  · rw [of_eq hp, of_eq hp, Int.add_mul_emod_self_left]
theorem of_small {k a : Int} (h0 : 0 ≤ a) (h1 : a < pr k) : of k a = a := by
  have : pr k ≠ 0 := by omega
  rw [of_eq this, Int.emod_eq_of_lt h0 h1]
theorem of_add_l (k a b : Int) : of k (of k a + b) = of k (a + b) := (cong_of k a).add (Cong.refl k b)
theorem of_add_r (k a b : Int) : of k (a + of k b) = of k (a + b) := (Cong.refl k a).add (cong_of k b)
theorem of_mul_l (k a b : Int) : of k (of k a * b) = of k (a * b) := (cong_of k a).mul (Cong.refl k b)
theorem of_mul_r (k a b : Int) : of k (a * of k b) = of k (a * b) := (Cong.refl k a).mul (cong_of k b)
theorem of_sub_l (k a b : Int) : of k (of k a - b) = of k (a - b) := (cong_of k a).sub (Cong.refl k b)
theorem of_sub_r (k a b : Int) : of k (a - of k b) = of k (a - b) := (Cong.refl k a).sub (cong_of k b)

/-! ### What the program computes -/
def addm (k a b : Int) : Int := of k (a + b)
def subm (k a b : Int) : Int := of k (a - b)
def mulm (k a b : Int) : Int := of k (a * b)
/-- A power; n is not below 0. -/
def pw (k a n : Int) : Int := of k (a ^ n.toNat)
theorem addm_is (k a b : Int) : of k (of k a + of k b) = addm k a b := by rw [of_add_l, of_add_r]; rfl
theorem mulm_is (k a b : Int) : of k (of k a * of k b) = mulm k a b := by rw [of_mul_l, of_mul_r]; rfl
theorem subm_is (k a b : Int) : of k (of k a + pr k - of k b) = subm k a b := by
  rw [of_sub_r, show of k a + pr k - b = (of k a - b) + pr k * 1 from by omega, cong_pr, of_sub_l]; rfl
theorem subm_is' (k a b : Int) : of k (pr k + of k a - of k b) = subm k a b := by rw [Int.add_comm (pr k)]; exact subm_is k a b
theorem addm_bd (k a b : Int) : 0 ≤ addm k a b ∧ addm k a b ≤ 998244352 := of_bd k _
theorem subm_bd (k a b : Int) : 0 ≤ subm k a b ∧ subm k a b ≤ 998244352 := of_bd k _
theorem mulm_bd (k a b : Int) : 0 ≤ mulm k a b ∧ mulm k a b ≤ 998244352 := of_bd k _
theorem pw_bd (k a n : Int) : 0 ≤ pw k a n ∧ pw k a n ≤ 998244352 := of_bd k _
theorem of_addm (k a b : Int) : of k (addm k a b) = addm k a b := of_of k _
theorem of_subm (k a b : Int) : of k (subm k a b) = subm k a b := of_of k _
theorem of_mulm (k a b : Int) : of k (mulm k a b) = mulm k a b := of_of k _
theorem of_pw (k a n : Int) : of k (pw k a n) = pw k a n := of_of k _
theorem pw_zero (k a : Int) : pw k a 0 = of k 1 := by simp [pw]
theorem pw_add (k a : Int) {m n : Int} (hm : 0 ≤ m) (hn : 0 ≤ n) : pw k a (m + n) = mulm k (pw k a m) (pw k a n) := by
  unfold pw mulm
  rw [Int.toNat_add hm hn, Int.pow_add, of_mul_l, of_mul_r]
theorem pw_mul (k a : Int) {m n : Int} (hm : 0 ≤ m) (hn : 0 ≤ n) : pw k (pw k a m) n = pw k a (m * n) := by
  unfold pw
  rw [(cong_of k _).pow n.toNat, Int.toNat_mul hm hn, Int.pow_mul]
theorem pw_of (k a n : Int) : pw k (of k a) n = pw k a n := (cong_of k a).pow n.toNat

/-! ### A power by squares, to be reckoned -/
def powFast (p : Nat) : Nat → Nat → Nat → Nat
  | 0, _, _ => 1 % p
  | f + 1, a, n => if n = 0 then 1 % p else if n % 2 = 1 then powFast p f (a * a % p) (n / 2) * a % p else powFast p f (a * a % p) (n / 2)
theorem powFast_eq (p : Nat) : ∀ f a n, n < 2 ^ f → powFast p f a n = a ^ n % p := by
  intro f
  induction f with
  | zero => intro a n h; have : n = 0 := by simpa using h
            subst this; simp [powFast]
  | succ f ih =>
    intro a n h
    rw [Nat.pow_succ] at h
    unfold powFast
    by_cases h0 : n = 0
    · subst h0; simp
    rw [if_neg h0, ih _ _ (by omega)]
    have e2 : (a * a % p) ^ (n / 2) % p = (a * a) ^ (n / 2) % p := by rw [← Nat.pow_mod]
    have e3 : (a * a) ^ (n / 2) = a ^ (2 * (n / 2)) := by rw [Nat.pow_mul, Nat.pow_two]
    by_cases h1 : n % 2 = 1
    · rw [if_pos h1, e2, e3, Nat.mod_mul_mod, ← Nat.pow_succ, show (2 * (n / 2)).succ = n from by omega]
    · rw [if_neg h1, e2, e3, show 2 * (n / 2) = n from by omega]
theorem pw_fast {k : Int} (p a n : Nat) (hp : pr k = p) (h0 : p ≠ 0) (f : Nat) (hn : n < 2 ^ f) : pw k (a : Int) (n : Int) = (powFast p f a n : Nat) := by
  unfold pw
  have : pr k ≠ 0 := by omega
  rw [of_eq this, hp, powFast_eq p f a n hn, Int.toNat_natCast, Int.natCast_emod, Int.natCast_pow]

/-! ### Fermat, inverses -/
theorem pr_dvd {k : Int} (h : pr k ≠ 0) {a : Int} (h0 : 0 ≤ a) : (pr k).toNat ∣ a.toNat ↔ of k a = 0 := by
  have hr := pr_range k
  rw [of_eq h, Nat.dvd_iff_mod_eq_zero]
  have e : ((a.toNat % (pr k).toNat : Nat) : Int) = a % pr k := by
    rw [Int.natCast_emod, Int.toNat_of_nonneg h0, Int.toNat_of_nonneg hr.1]
  omega
theorem pw_fermat {k : Int} {a : Int} (ha : of k a ≠ 0) : pw k a (pr k - 1) = 1 := by
  have h : pr k ≠ 0 := fun e => ha (of_zero e a)
  have hr := pr_range k
  have hb := pr_big h
  rw [← pw_of]
  have h0 := of_nonneg k a
  obtain ⟨n, hn⟩ := Int.eq_ofNat_of_zero_le h0
  have hnd : ¬ (pr k).toNat ∣ n := by
    intro hd
    have := (pr_dvd h (a := of k a) h0).1 (by rw [hn]; exact hd)
    rw [of_of] at this
    exact ha this
  have F := fermat (pr_prime h) hnd
  unfold pw
  rw [hn, of_eq h, show (pr k - 1).toNat = (pr k).toNat - 1 from by omega]
  have e : ((n ^ ((pr k).toNat - 1) % (pr k).toNat : Nat) : Int) = (n : Int) ^ ((pr k).toNat - 1) % pr k := by
    rw [Int.natCast_emod, Int.natCast_pow, Int.toNat_of_nonneg hr.1]
  rw [← e, F]; rfl
/-- An inverse; 0 where there is none. -/
def invm (k a : Int) : Int := if of k a = 0 then 0 else pw k a (pr k - 2)
theorem invm_bd (k a : Int) : 0 ≤ invm k a ∧ invm k a ≤ 998244352 := by
  unfold invm; split
  · omega
  · exact pw_bd _ _ _
theorem of_invm (k a : Int) : of k (invm k a) = invm k a := by
  unfold invm; split
  · unfold of; split <;> simp
  · exact of_pw _ _ _
theorem of_one {k : Int} (h : pr k ≠ 0) : of k 1 = 1 := of_small (by omega) (by have := pr_big h; omega)
theorem mul_invm {k a : Int} (ha : of k a ≠ 0) : of k (a * invm k a) = 1 := by
  have h : pr k ≠ 0 := fun e => ha (of_zero e a)
  have hb := pr_big h
  rw [invm, if_neg ha, ← pw_fermat ha]
  have e := pw_add k a (m := 1) (n := pr k - 2) (by omega) (by omega)
  rw [show 1 + (pr k - 2) = pr k - 1 from by omega] at e
  rw [e]
  unfold mulm
  rw [show pw k a 1 = of k a from by unfold pw; rw [show (1 : Int).toNat = 1 from rfl, show a ^ 1 = a from by rw [Int.pow_succ, Int.pow_zero, Int.one_mul]], of_mul_l]
/-- What has the product 1 with a number is its inverse. -/
theorem inv_unique {k a v : Int} (ha : of k a ≠ 0) (hv : of k (v * a) = 1) : of k v = invm k a := by
  have h : pr k ≠ 0 := fun e => ha (of_zero e a)
  rw [← of_invm]
  have e1 : Cong k v (v * (a * invm k a)) := by
    have h1 : Cong k (a * invm k a) 1 := by unfold Cong; rw [mul_invm ha, of_one h]
    have := (Cong.refl k v).mul h1
    rw [Int.mul_one] at this
    exact this.symm
  have e2 : Cong k (v * (a * invm k a)) (invm k a) := by
    have h1 : Cong k (v * a) 1 := by unfold Cong; rw [hv, of_one h]
    have := h1.mul (Cong.refl k (invm k a))
    rw [Int.one_mul, Int.mul_assoc] at this
    exact this
  exact e1.trans e2
theorem of_zero_or {k a b : Int} (h : pr k ≠ 0) (h0 : 0 ≤ a) (h1 : 0 ≤ b) (hab : of k (a * b) = 0) : of k a = 0 ∨ of k b = 0 := by
  have hd := (pr_dvd h (Int.mul_nonneg h0 h1)).2 hab
  rw [Int.toNat_mul h0 h1] at hd
  rcases (pr_prime h).euclid hd with e | e
  · exact .inl ((pr_dvd h h0).1 e)
  · exact .inr ((pr_dvd h h1).1 e)
theorem invm_ne {k a : Int} (ha : of k a ≠ 0) : of k (invm k a) ≠ 0 := by
  have h : pr k ≠ 0 := fun e => ha (of_zero e a)
  intro e
  have := mul_invm ha
  rw [← of_mul_r, e, Int.mul_zero] at this
  rw [of_eq h, Int.zero_emod] at this
  omega
theorem invm_invm {k a : Int} (ha : of k a ≠ 0) : invm k (invm k a) = of k a := by
  have h : pr k ≠ 0 := fun e => ha (of_zero e a)
  exact (inv_unique (invm_ne ha) (mul_invm ha)).symm
/-! ### Euclid's steps -/
/-- Nothing but 1 (and -1) divides both. -/
def Apart (r u : Int) : Prop := ∀ d : Int, d ∣ r → d ∣ u → d ∣ 1
theorem apart_start {k a : Int} (ha : of k a ≠ 0) : Apart (pr k) (of k a) := by
  have h : pr k ≠ 0 := fun e => ha (of_zero e a)
  have hr := pr_range k
  have h0 := of_nonneg k a
  have h1 := of_lt h a
  intro d hd hd'
  have e1 : d.natAbs ∣ (pr k).toNat := by
    have := Int.natAbs_dvd_natAbs.2 hd
    rwa [show (pr k).natAbs = (pr k).toNat from by omega] at this
  rcases (pr_prime h).2 _ e1 with e | e
  · exact Int.natAbs_dvd_natAbs.1 (by rw [e]; exact Nat.one_dvd _)
  · exfalso
    have := Int.natAbs_dvd_natAbs.2 hd'
    rw [e] at this
    have := Nat.le_of_dvd (by omega) this
    omega
theorem apart_step {r u : Int} (h : Apart r u) : Apart u (r % u) := by
  intro d h1 h2
  refine h d ?_ h1
  have := Int.emod_add_mul_ediv r u
  rw [← this]
  exact Int.dvd_add h2 (Int.dvd_mul_of_dvd_left h1)
theorem apart_pos {r u : Int} (h : Apart r u) (hu : 1 < u) : 1 ≤ r % u := by
  have h0 := Int.emod_nonneg r (show u ≠ 0 from by omega)
  rcases Int.lt_or_le 0 (r % u) with h1 | h1
  · omega
  · exfalso
    have e : r % u = 0 := by omega
    have := h u (Int.dvd_of_emod_eq_zero e) (Int.dvd_refl u)
    have := Int.le_of_dvd (by decide) this
    omega
theorem euclid_step {k a r s u v : Int} (h1 : Cong k (s * a) r) (h2 : Cong k (v * a) u) : Cong k (subm k s (mulm k (r / u) v) * a) (r % u) := by
  have e1 : Cong k (subm k s (mulm k (r / u) v) * a) ((s - r / u * v) * a) := by
    refine Cong.mul ?_ (Cong.refl k a)
    exact (cong_of k _).trans ((Cong.refl k s).sub (cong_of k _))
  refine e1.trans ?_
  have e2 : (s - r / u * v) * a = s * a - r / u * (v * a) := by rw [Int.sub_mul, Int.mul_assoc]
  have e3 : r % u = r - r / u * u := by have := Int.emod_add_mul_ediv r u; rw [Int.mul_comm] at this; omega
  rw [e2, e3]
  exact h1.sub ((Cong.refl k _).mul h2)
theorem euclid_end {k a v : Int} (ha : of k a ≠ 0) (h : Cong k (v * of k a) 1) (h0 : 0 ≤ v) (h1 : v < pr k) : v = invm k a := by
  have hp : pr k ≠ 0 := fun e => ha (of_zero e a)
  rw [← inv_unique ha (v := v), of_small h0 h1]
  rw [← of_mul_r, h, of_one hp]

/-! ### Numbers that are reckoned -/
theorem pw_at (p a n : Nat) {k : Int} (f : Nat) (r : Nat) (hp : pr k = p) (h0 : p ≠ 0) (hn : n < 2 ^ f) (h : powFast p f a n = r) : pw k (a : Int) (n : Int) = (r : Int) := by
  rw [pw_fast p a n hp h0 f hn, h]
theorem inv_2_2 : invm 2 2 = 234881025 := by
  unfold invm
  rw [if_neg (by simp [of, pr]), pr2]
  exact pw_at 469762049 2 469762047 30 234881025 pr2 (by decide) (by decide) (by decide +kernel)
theorem root_0_1 : pw 0 3 499122176 = 998244352 := pw_at 998244353 3 499122176 30 998244352 pr0 (by decide) (by decide) (by decide +kernel)
theorem pow_1_2 : pw 1 2 10 = 1024 := pw_at 167772161 2 10 4 1024 pr1 (by decide) (by decide) (by decide +kernel)

/-! ### Roots of 1 -/
/-- The root of 1 of 2^l places. -/
def rootm (k : Int) (l : Nat) : Int := pw k 3 ((pr k - 1) / (2 ^ l : Nat))
theorem rootm_is (k : Int) (l : Nat) : pw k 3 ((pr k - 1) / 2 ^ l) = rootm k l := by unfold rootm; rw [Int.natCast_pow]; rfl
theorem root_half0 : pw 0 3 ((998244353 - 1) / 2) = 998244352 := root_0_1
theorem root_half1 : pw 1 3 ((167772161 - 1) / 2) = 167772160 := pw_at 167772161 3 83886080 30 167772160 pr1 (by decide) (by decide) (by decide +kernel)
theorem root_half2 : pw 2 3 ((469762049 - 1) / 2) = 469762048 := pw_at 469762049 3 234881024 30 469762048 pr2 (by decide) (by decide) (by decide +kernel)
theorem root_half {k : Int} (h : pr k ≠ 0) : pw k 3 ((pr k - 1) / 2) = pr k - 1 := by
  rcases pr_cases k with ⟨rfl, e⟩ | ⟨rfl, e⟩ | ⟨rfl, e⟩ | ⟨_, e⟩
  · rw [e]; exact root_half0
  · rw [e]; exact root_half1
  · rw [e]; exact root_half2
  · exact absurd e h
theorem pr_pow {k : Int} (h : pr k ≠ 0) (l : Nat) (hl : l ≤ 12) : (pr k - 1) % (2 ^ l : Nat) = 0 := by
  have hl' : l = 0 ∨ l = 1 ∨ l = 2 ∨ l = 3 ∨ l = 4 ∨ l = 5 ∨ l = 6 ∨ l = 7 ∨ l = 8 ∨ l = 9 ∨ l = 10 ∨ l = 11 ∨ l = 12 := by omega
  have e : pr k = 998244353 ∨ pr k = 167772161 ∨ pr k = 469762049 := by have := pr_cases k; omega
  rcases e with e | e | e <;> rw [e] <;> rcases hl' with rfl | rfl | rfl | rfl | rfl | rfl | rfl | rfl | rfl | rfl | rfl | rfl | rfl <;> rfl
theorem of_three {k : Int} (h : pr k ≠ 0) : of k 3 ≠ 0 := by
  rw [of_small (by omega) (by have := pr_big h; omega)]; omega
theorem rootm_pow {k : Int} (h : pr k ≠ 0) {l : Nat} (hl : l ≤ 12) : pw k (rootm k l) ((2 ^ l : Nat) : Int) = 1 := by
  have hr := pr_big h
  unfold rootm
  have hpos : (0 : Int) ≤ (2 ^ l : Nat) := Int.natCast_nonneg _
  rw [pw_mul k 3 (Int.ediv_nonneg (by omega) hpos) hpos, Int.ediv_mul_cancel_of_emod_eq_zero (pr_pow h l hl)]
  exact pw_fermat (of_three h)
theorem rootm_half {k : Int} (h : pr k ≠ 0) {l : Nat} (hl : l + 1 ≤ 12) : pw k (rootm k (l + 1)) ((2 ^ l : Nat) : Int) = pr k - 1 := by
  have hr := pr_big h
  have hpos : (0 : Int) < (2 ^ l : Nat) := by have := Nat.two_pow_pos l; omega
  unfold rootm
  have hpos2 : (0 : Int) ≤ (2 ^ (l + 1) : Nat) := Int.natCast_nonneg _
  rw [pw_mul k 3 (Int.ediv_nonneg (by omega) hpos2) (by omega)]
  refine Eq.trans (congrArg (pw k 3) ?_) (root_half h)
  have hz := pr_pow h (l + 1) hl
  have e2 : ((2 ^ (l + 1) : Nat) : Int) = 2 * ((2 ^ l : Nat) : Int) := by rw [Nat.pow_succ, Int.natCast_mul, Int.mul_comm]; rfl
  rw [e2] at hz ⊢
  obtain ⟨c, hc⟩ := Int.dvd_of_emod_eq_zero hz
  rw [hc, Int.mul_ediv_cancel_left c (by omega), Int.mul_assoc, Int.mul_ediv_cancel_left _ (by decide), Int.mul_comm]
theorem rootm_bd (k : Int) (l : Nat) : 0 ≤ rootm k l ∧ rootm k l ≤ 998244352 := pw_bd _ _ _
theorem of_rootm (k : Int) (l : Nat) : of k (rootm k l) = rootm k l := of_pw _ _ _
theorem rootm_ne {k : Int} (h : pr k ≠ 0) {l : Nat} (hl : l ≤ 12) : of k (rootm k l) ≠ 0 := by
  intro e
  have h1 := rootm_pow h hl
  rw [← pw_of, e] at h1
  have : (2 ^ l : Nat) ≠ 0 := by have := Nat.two_pow_pos l; omega
  unfold pw at h1
  rw [Int.toNat_natCast, Int.zero_pow this, of_eq h, Int.zero_emod] at h1
  omega
end BG
