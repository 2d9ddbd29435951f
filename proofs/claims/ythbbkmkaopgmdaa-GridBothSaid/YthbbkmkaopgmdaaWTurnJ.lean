/-
  Floats that are whole numbers: sums, differences, products and conversions of such are exact.
-/
import Derived.Laws.ComplexArith
import Derived.ProofKit
import Derived.Test.YthbbkmkaopgmdaaBase
import Derived.Test.YthbbkmkaopgmdaaEq
import Derived.Test.YthbbkmkaopgmdaaSl
import Derived.Deep.DeepCutAuto
import Derived.Test.YthbbkmkaopgmdaaTail
set_option linter.unusedVariables false
namespace Go.Proofs.Ythbbkmkaopgmdaa
open Ieee

def sg (s : Bool) (m : Nat) : Int := if s then -(m : Int) else m
/-- What a number stands for is the whole number n. -/
def Val (s : Bool) (m : Nat) (i : Int) (n : Int) : Prop := ∃ a b : Nat, i = (a : Int) - b ∧ sg s m * 2 ^ a = n * 2 ^ b
theorem pow_pos2 (a : Nat) : (0 : Int) < 2 ^ a := Int.pow_pos (by decide)
theorem Val.at_ {s : Bool} {m : Nat} {i n : Int} (h : Val s m i n) {a b : Nat} (hi : i = (a : Int) - b) : sg s m * 2 ^ a = n * 2 ^ b := by
  obtain ⟨c, d, h1, h2⟩ := h
  have e : a + d = c + b := by omega
  have h3 : (sg s m * 2 ^ a) * 2 ^ d = (n * 2 ^ b) * 2 ^ d := by
    rw [Int.mul_assoc, ← Int.pow_add, e, Int.pow_add, ← Int.mul_assoc, h2, Int.mul_assoc, Int.mul_assoc, Int.mul_comm (2 ^ d)]
  exact Int.eq_of_mul_eq_mul_right (Int.ne_of_gt (pow_pos2 d)) h3
theorem sg_mul (s t : Bool) (m n : Nat) : sg (s ^^ t) (m * n) = sg s m * sg t n := by
  cases s <;> cases t <;> simp [sg, Int.mul_neg, Int.neg_mul]
theorem sg_natAbs (s : Bool) (m : Nat) : (sg s m).natAbs = m := by cases s <;> simp [sg]
theorem Val.mul {s t : Bool} {m n : Nat} {i j x y : Int} (h : Val s m i x) (h' : Val t n j y) : Val (s ^^ t) (m * n) (i + j) (x * y) := by
  obtain ⟨a, b, h1, h2⟩ := h
  obtain ⟨c, d, h3, h4⟩ := h'
  refine ⟨a + c, b + d, by omega, ?_⟩
  rw [sg_mul, Int.pow_add, Int.pow_add]
  have : sg s m * sg t n * (2 ^ a * 2 ^ c) = (sg s m * 2 ^ a) * (sg t n * 2 ^ c) := by
    simp only [Int.mul_assoc, Int.mul_left_comm, Int.mul_comm]
  rw [this, h2, h4]
  simp only [Int.mul_assoc, Int.mul_left_comm]
theorem Val.neg {s : Bool} {m : Nat} {i x : Int} (h : Val s m i x) : Val (!s) m i (-x) := by
  obtain ⟨a, b, h1, h2⟩ := h
  refine ⟨a, b, h1, ?_⟩
  rw [Int.neg_mul, ← h2]
  cases s <;> simp [sg, Int.neg_mul]
theorem signed_eq (s : Bool) (m k : Nat) : signed s m k = sg s m * 2 ^ k := by
  cases s <;> simp [signed, sg, Nat.shiftLeft_eq, Int.neg_mul]
theorem Val.add {s t : Bool} {m n : Nat} {i j x y : Int} (h : Val s m i x) (h' : Val t n j y) (q : Bool) (hq : q = if signed s m (i - min i j).toNat + signed t n (j - min i j).toNat = 0 then s && t else decide (signed s m (i - min i j).toNat + signed t n (j - min i j).toNat < 0)) :
    Val q (signed s m (i - min i j).toNat + signed t n (j - min i j).toNat).natAbs (min i j) (x + y) := by
  have hsg : sg q (signed s m (i - min i j).toNat + signed t n (j - min i j).toNat).natAbs = signed s m (i - min i j).toNat + signed t n (j - min i j).toNat := by
    generalize signed s m (i - min i j).toNat + signed t n (j - min i j).toNat = z at *
    subst hq
    unfold sg
    split
    · rename_i h0
      cases s <;> cases t <;> simp <;> omega
    · rename_i h0
      by_cases h1 : z < 0 <;> simp [h1] <;> omega
  obtain ⟨a, b, h1, h2⟩ := h
  obtain ⟨c, d, h3, h4⟩ := h'
  refine ⟨(min i j + b + d).toNat, b + d, by omega, ?_⟩
  rw [hsg, signed_eq, signed_eq, Int.add_mul, Int.mul_assoc, Int.mul_assoc, ← Int.pow_add, ← Int.pow_add, show (i - min i j).toNat + (min i j + b + d).toNat = a + d by omega, show (j - min i j).toNat + (min i j + b + d).toNat = c + b by omega, Int.pow_add, Int.pow_add, ← Int.mul_assoc, ← Int.mul_assoc, h2, h4, Int.add_mul, Int.pow_add]
  simp only [Int.mul_assoc, Int.mul_left_comm, Int.mul_comm]

theorem cut_exact (w : Toward) (neg : Bool) (q drop : Nat) : w.cut neg (q * 2 ^ drop) drop = q := by
  have key : q * 2 ^ drop / (1 <<< min drop ((q * 2 ^ drop).log2 + 2)) = q ∧ q * 2 ^ drop % (1 <<< min drop ((q * 2 ^ drop).log2 + 2)) = 0 ∧ 0 < 1 <<< min drop ((q * 2 ^ drop).log2 + 2) := by
    rcases Nat.eq_zero_or_pos q with rfl | hq
    · simp [Nat.shiftLeft_eq, Nat.pow_pos]
    · have h1 : drop ≤ (q * 2 ^ drop).log2 := (Nat.le_log2 (by have := Nat.mul_pos hq (Nat.pow_pos (n := drop) (show 0 < 2 by decide)); omega)).2 (Nat.le_mul_of_pos_left _ hq)
      rw [Nat.min_eq_left (by omega), Nat.shiftLeft_eq, Nat.one_mul]
      exact ⟨Nat.mul_div_cancel _ (Nat.pow_pos (by decide)), Nat.mul_mod_left _ _, Nat.pow_pos (by decide)⟩
  obtain ⟨h1, h2, h3⟩ := key
  unfold Toward.cut
  simp only [h1, h2]
  cases w <;> simp

theorem dbl : double.signWeight = 9223372036854775808 ∧ double.binade = 4503599627370496 ∧ double.infRung = 9218868437227405312 ∧ double.leastPlace = -1074 ∧ double.fractionBits = 52 := by decide
theorem read_zero (s : Bool) : double.read (double.word s 0) = .number s 0 (-1074) := by
  cases s <;> decide
theorem read_word (s : Bool) (e kept : Nat) (h1 : 4503599627370496 ≤ kept) (h2 : kept < 9007199254740992) (he : e ≤ 2000) : double.read (double.word s (e * 4503599627370496 + kept)) = .number s kept (-1074 + (e : Int)) := by
  obtain ⟨d1, d2, d3, d4, d5⟩ := dbl
  unfold Format.read Format.word
  rw [d1, d2, d3, d4]
  have hr : (if s = true then 9223372036854775808 + (e * 4503599627370496 + kept) else e * 4503599627370496 + kept) % 9223372036854775808 = e * 4503599627370496 + kept := by split <;> omega
  have hn : ((if s = true then 9223372036854775808 + (e * 4503599627370496 + kept) else e * 4503599627370496 + kept) / 9223372036854775808 % 2 == 1) = s := by
    cases s <;> simp <;> omega
  simp only [hr, hn]
  rw [if_neg (by omega), if_pos (by omega)]
  congr 1 <;> omega

theorem sg_self {s : Bool} {m a b : Nat} {n : Int} (hv : sg s m * 2 ^ a = n * 2 ^ b) : n = sg s n.natAbs := by
  have hp := pow_pos2 a
  have hq := pow_pos2 b
  generalize (2 : Int) ^ a = x at *
  generalize (2 : Int) ^ b = y at *
  cases s
  · have : 0 ≤ n * y := by rw [← hv]; exact Int.mul_nonneg (Int.natCast_nonneg m) (Int.le_of_lt hp)
    have : 0 ≤ n := Int.nonneg_of_mul_nonneg_left this hq
    show n = (n.natAbs : Int)
    omega
  · have : 0 ≤ -n * y := by
      rw [Int.neg_mul, ← hv]; show 0 ≤ -(-(m : Int) * x)
      rw [Int.neg_mul, Int.neg_neg]
      exact Int.mul_nonneg (Int.natCast_nonneg m) (Int.le_of_lt hp)
    have : 0 ≤ -n := Int.nonneg_of_mul_nonneg_left this hq
    show n = -(n.natAbs : Int)
    omega
/-- The word of a number that is whole and below 2^53 is that number. -/
theorem nearest_exact (s : Bool) (m : Nat) (i n : Int) (h : Val s m i n) (h1 : n.natAbs < 2 ^ 53) : ∃ m' i', double.read (double.nearest s m i) = .number s m' i' ∧ Val s m' i' n := by
  obtain ⟨d1, d2, d3, d4, d5⟩ := dbl
  unfold Format.nearest
  obtain ⟨a, b, hi, hv⟩ := h
  split
  · rename_i h0
    subst h0
    have hn : n = 0 := by
      have : n * 2 ^ b = 0 := by rw [← hv]; cases s <;> simp [sg]
      rcases Int.mul_eq_zero.1 this with h | h
      · exact h
      · exact absurd h (Int.ne_of_gt (pow_pos2 b))
    exact ⟨0, -1074, read_zero s, 0, 1074, by omega, by rw [hn, Int.zero_mul]; cases s <;> simp [sg]⟩
  · rename_i h0
    have hN : m * 2 ^ a = n.natAbs * 2 ^ b := by
      have := congrArg Int.natAbs hv
      rwa [Int.natAbs_mul, Int.natAbs_mul, sg_natAbs, Int.natAbs_pow, Int.natAbs_pow] at this
    have hl1 : 2 ^ m.log2 ≤ m := Nat.log2_self_le h0
    have hl2 : m < 2 ^ (m.log2 + 1) := Nat.lt_log2_self
    have hn0 : 0 < n.natAbs := Nat.pos_of_ne_zero fun h => by
      rw [h, Nat.zero_mul] at hN
      have := Nat.mul_pos (Nat.pos_of_ne_zero h0) (Nat.pow_pos (n := a) (show 0 < 2 by decide))
      omega
    generalize hL : m.log2 = L at *
    have p1 : b ≤ L + a := by
      refine Nat.le_of_lt_succ (Nat.lt_of_not_le fun hc => ?_)
      have q1 : m * 2 ^ a < 2 ^ (L + 1) * 2 ^ a := Nat.mul_lt_mul_of_pos_right hl2 (Nat.pow_pos (by decide))
      have q2 : 2 ^ b ≤ n.natAbs * 2 ^ b := Nat.le_mul_of_pos_left _ hn0
      rw [← Nat.pow_add] at q1
      have q3 : 2 ^ (L + 1 + a) ≤ 2 ^ b := Nat.pow_le_pow_right (by decide) (by omega)
      omega
    have p2 : L + a ≤ 52 + b := by
      refine Nat.le_of_lt_succ (Nat.lt_of_not_le fun hc => ?_)
      have q1 : 2 ^ L * 2 ^ a ≤ m * 2 ^ a := Nat.mul_le_mul_right _ hl1
      have q2 : n.natAbs * 2 ^ b < 2 ^ 53 * 2 ^ b := Nat.mul_lt_mul_of_pos_right h1 (Nat.pow_pos (by decide))
      rw [← Nat.pow_add] at q1 q2
      have q3 : 2 ^ (53 + b) ≤ 2 ^ (L + a) := Nat.pow_le_pow_right (by decide) (by omega)
      omega
    obtain ⟨kept, hk1, hk2⟩ : ∃ kept, m <<< (52 - L) = kept * 2 ^ (L - 52) ∧ kept * 2 ^ L = m * 2 ^ 52 := by
      rw [Nat.shiftLeft_eq]
      rcases Nat.le_total L 52 with hc | hc
      · refine ⟨m * 2 ^ (52 - L), by rw [show L - 52 = 0 by omega, Nat.pow_zero, Nat.mul_one], ?_⟩
        rw [Nat.mul_assoc, ← Nat.pow_add, show 52 - L + L = 52 by omega]
      · have hm : m = n.natAbs * 2 ^ (b - a - (L - 52)) * 2 ^ (L - 52) := by
          have : m * 2 ^ a = n.natAbs * 2 ^ (b - a - (L - 52)) * 2 ^ (L - 52) * 2 ^ a := by
            rw [hN, Nat.mul_assoc, Nat.mul_assoc, ← Nat.pow_add, ← Nat.pow_add, show b - a - (L - 52) + (L - 52 + a) = b by omega]
          exact Nat.eq_of_mul_eq_mul_right (Nat.pow_pos (by decide)) this
        refine ⟨n.natAbs * 2 ^ (b - a - (L - 52)), by rw [show 52 - L = 0 by omega, Nat.pow_zero, Nat.mul_one]; exact hm, ?_⟩
        conv => rhs; rw [hm]
        rw [Nat.mul_assoc _ (2 ^ (L - 52)), ← Nat.pow_add, show L - 52 + 52 = L by omega]
    have hkl : 2 ^ 52 ≤ kept := by
      refine Nat.le_of_mul_le_mul_right (c := 2 ^ L) ?_ (Nat.pow_pos (by decide))
      rw [hk2, Nat.mul_comm (2 ^ 52)]
      exact Nat.mul_le_mul_right _ hl1
    have hku : kept < 2 ^ 53 := by
      refine Nat.lt_of_mul_lt_mul_right (a := 2 ^ L) ?_
      rw [hk2, ← Nat.pow_add, show 53 + L = L + 1 + 52 by omega, Nat.pow_add 2 (L + 1)]
      exact Nat.mul_lt_mul_of_pos_right hl2 (Nat.pow_pos (by decide))
    rw [d5, d4]
    have hlast : max (i + (L : Int) - (52 : Nat)) (-1074) = i + L - 52 := by omega
    simp only [hlast]
    rw [show (i - (i + (L : Int) - 52)).toNat = 52 - L by omega, show (i + (L : Int) - 52 - i).toNat = L - 52 by omega, hk1, cut_exact]
    rw [d2, d3, show (i + (L : Int) - 52 - -1074) = ((i + L + 1022).toNat : Int) by omega]
    have hmin : min ((i + (L : Int) + 1022).toNat * 4503599627370496 + kept) 9218868437227405312 = (i + (L : Int) + 1022).toNat * 4503599627370496 + kept := Nat.min_eq_left (by omega)
    rw [Int.toNat_natCast, hmin]
    refine ⟨kept, _, read_word s _ kept (by omega) (by omega) (by omega), a + L, b + 52, by omega, ?_⟩
    have hN2 : kept * 2 ^ (a + L) = n.natAbs * 2 ^ (b + 52) := by
      rw [Nat.add_comm a L, Nat.pow_add, ← Nat.mul_assoc, hk2, Nat.mul_assoc, Nat.mul_comm (2 ^ 52), ← Nat.mul_assoc, hN, Nat.mul_assoc, ← Nat.pow_add]
    have hs : n = sg s n.natAbs := sg_self hv
    clear hv hmin hlast h1 hkl hku hk1 hk2 hN hl1 hl2 p1 p2
    have hN3 : (kept : Int) * 2 ^ (a + L) = (n.natAbs : Int) * 2 ^ (b + 52) := by
      have := congrArg (fun (x : Nat) => (x : Int)) hN2
      simp only [Int.natCast_mul, Int.natCast_pow, Int.cast_ofNat_Int] at this
      exact this
    generalize (2 : Int) ^ (a + L) = x at *
    generalize (2 : Int) ^ (b + 52) = y at *
    refine Eq.trans ?_ (congrArg (· * y) hs.symm)
    cases s
    · exact hN3
    · show -(kept : Int) * x = -(n.natAbs : Int) * y
      rw [Int.neg_mul, Int.neg_mul, hN3]

/-- The bits stand for the whole number n. -/
def Rep (w : Nat) (n : Int) : Prop := ∃ s m i, double.read w = .number s m i ∧ Val s m i n
theorem rep_write {s : Bool} {m : Nat} {i n : Int} (h : Val s m i n) (h1 : n.natAbs < 9007199254740992) : Rep (double.write (.number s m i)) n := by
  obtain ⟨m', i', h2, h3⟩ := nearest_exact s m i n h h1
  exact ⟨s, m', i', h2, h3⟩
theorem rep_int (n : Int) (h : n.natAbs < 9007199254740992) : Rep (floatOfInt .f64 n) n := by
  refine rep_write (s := decide (n < 0)) (m := n.natAbs) (i := 0) ⟨0, 0, rfl, ?_⟩ h
  rw [Int.pow_zero, Int.mul_one, Int.mul_one]
  unfold sg
  by_cases h : n < 0 <;> simp [h] <;> omega
theorem rep_mul {x y : Nat} {a b : Int} (ha : Rep x a) (hb : Rep y b) (h : (a * b).natAbs < 9007199254740992) : ∃ z, floatBits .mul .f64 x y = some z ∧ Rep z (a * b) := by
  obtain ⟨s, m, i, h1, h2⟩ := ha
  obtain ⟨t, n, j, h3, h4⟩ := hb
  refine ⟨double.write (.number (s ^^ t) (m * n) (i + j)), ?_, rep_write (h2.mul h4) h⟩
  show ((double.read x).product (double.read y)).map double.write = _
  rw [h1, h3]
  rfl
theorem rep_sum {d e : Datum} {s t : Bool} {m n : Nat} {i j a b : Int} (h1 : d = .number s m i) (h2 : e = .number t n j) (h3 : Val s m i a) (h4 : Val t n j b) (h : (a + b).natAbs < 9007199254740992) : ∃ z, (d.sum e).map double.write = some z ∧ Rep z (a + b) := by
  subst h1 h2
  exact ⟨_, rfl, rep_write (Val.add h3 h4 _ rfl) h⟩
theorem rep_add {x y : Nat} {a b : Int} (ha : Rep x a) (hb : Rep y b) (h : (a + b).natAbs < 9007199254740992) : ∃ z, floatBits .add .f64 x y = some z ∧ Rep z (a + b) := by
  obtain ⟨s, m, i, h1, h2⟩ := ha
  obtain ⟨t, n, j, h3, h4⟩ := hb
  exact rep_sum h1 h3 h2 h4 h
theorem rep_sub {x y : Nat} {a b : Int} (ha : Rep x a) (hb : Rep y b) (h : (a - b).natAbs < 9007199254740992) : ∃ z, floatBits .sub .f64 x y = some z ∧ Rep z (a - b) := by
  obtain ⟨s, m, i, h1, h2⟩ := ha
  obtain ⟨t, n, j, h3, h4⟩ := hb
  exact rep_sum h1 (congrArg Datum.opposite h3) h2 h4.neg h
theorem rep_toInt {x : Nat} {a : Int} (ha : Rep x a) (h : -9223372036854775808 ≤ a ∧ a ≤ 9223372036854775807) : floatToIntVal .f64 x .i64 = some a := by
  obtain ⟨s, m, i, h1, h2⟩ := ha
  have key : ((FloatKind.decode .f64 x).toInt .zero) = some a := by
    show (double.read x).toInt .zero = some a
    rw [h1]
    unfold Datum.toInt Datum.integral
    have hv : ∃ q : Nat, m <<< i.toNat = q * 2 ^ (-i).toNat ∧ sg s q = a := by
      have hq : sg s a.natAbs = a := by obtain ⟨c, d, _, e⟩ := h2; exact (sg_self e).symm
      refine ⟨a.natAbs, ?_, hq⟩
      rw [Nat.shiftLeft_eq]
      have e := h2.at_ (a := i.toNat) (b := (-i).toNat) (by omega)
      have := congrArg Int.natAbs e
      rwa [Int.natAbs_mul, Int.natAbs_mul, sg_natAbs, Int.natAbs_pow, Int.natAbs_pow] at this
    obtain ⟨q, hq, hs⟩ := hv
    simp only [hq, cut_exact]
    rw [signed_eq, Int.pow_zero, Int.mul_one, hs]
  unfold floatToIntVal
  rw [key]
  exact if_pos h
theorem rep_cmul {a b c d : Nat} {x y u v : Int} (ha : Rep a x) (hb : Rep b y) (hc : Rep c u) (hd : Rep d v) (h1 : (x * u).natAbs < 4503599627370496) (h2 : (y * v).natAbs < 4503599627370496) (h3 : (x * v).natAbs < 4503599627370496) (h4 : (y * u).natAbs < 4503599627370496) :
    ∃ re im, cMulBits a b c d = some (re, im) ∧ Rep re (x * u - y * v) ∧ Rep im (x * v + y * u) := by
  obtain ⟨z1, e1, r1⟩ := rep_mul ha hc (by omega)
  obtain ⟨z2, e2, r2⟩ := rep_mul hb hd (by omega)
  obtain ⟨z3, e3, r3⟩ := rep_mul ha hd (by omega)
  obtain ⟨z4, e4, r4⟩ := rep_mul hb hc (by omega)
  obtain ⟨z5, e5, r5⟩ := rep_sub r1 r2 (by omega)
  obtain ⟨z6, e6, r6⟩ := rep_add r3 r4 (by omega)
  exact ⟨z5, z6, by simp [cMulBits, e1, e2, e3, e4, e5, e6], r5, r6⟩
theorem rep_csub {a b c d : Nat} {x y u v : Int} (ha : Rep a x) (hb : Rep b y) (hc : Rep c u) (hd : Rep d v) (h1 : (x - u).natAbs < 9007199254740992) (h2 : (y - v).natAbs < 9007199254740992) :
    ∃ re im, cSumBits .sub .f64 a b c d = some (re, im) ∧ Rep re (x - u) ∧ Rep im (y - v) := by
  obtain ⟨z1, e1, r1⟩ := rep_sub ha hc h1
  obtain ⟨z2, e2, r2⟩ := rep_sub hb hd h2
  exact ⟨z1, z2, by simp [cSumBits, e1, e2], r1, r2⟩
end Go.Proofs.Ythbbkmkaopgmdaa
/-
  Layer 21 (turn): what its functions, and the document's, give.
-/
namespace Go.Proofs.Ythbbkmkaopgmdaa
open Go.RowKit BG
attribute [local go_sem ↓] Go.wp_at_zero Go.wp_at_succ
set_option linter.unusedVariables false

abbrev arr2 (x y : Int) : Value := .agg #[.int .i64 x, .int .i64 y]
def rx (x y k : Int) : Int := if k % 4 = 0 then x else if k % 4 = 1 then -y else if k % 4 = 2 then -x else y
def ry (x y k : Int) : Int := if k % 4 = 0 then y else if k % 4 = 1 then x else if k % 4 = 2 then -y else -x
def pre (k : Int) : Nat := if k % 4 = 0 then 4607182418800017408 else if k % 4 = 1 then 0 else if k % 4 = 2 then 13830554455654793216 else 9223372036854775808
def pim (k : Int) : Nat := if k % 4 = 0 then 0 else if k % 4 = 1 then 4607182418800017408 else if k % 4 = 2 then 0 else 13830554455654793216
theorem eq2 (a b c d : Int) (w : World) : (Op.equalIn 10000 53 (.agg #[.int .i64 a, .int .i64 b]) (.agg #[.int .i64 c, .int .i64 d])).run Try.prog w = .ok ([a, b] == [c, d]) w :=
  run_equalIn_ints w .i64 9998 53 3 2 Try.underlying53 Try.underlying3 (fun w => by kernel_rfl) [a, b] [c, d] rfl rfl
theorem eq2_same (a b : Int) (w : World) : (Op.equalIn 10000 53 (.agg #[.int .i64 a, .int .i64 b]) (.agg #[.int .i64 a, .int .i64 b])).run Try.prog w = .ok true w := by rw [eq2]; simp
theorem tm4 (k : Int) : -4 < k.tmod 4 ∧ k.tmod 4 < 4 ∧ (k.tmod 4 + 4).tmod 4 = k % 4 ∧ (k.tmod 4 = k % 4 ∨ k % 4 ≠ 0 ∧ k.tmod 4 = k % 4 - 4) := by
  have h := Int.tmod_eq_emod (a := k) (b := 4)
  have e : k.tmod 4 = k % 4 ∨ k % 4 ≠ 0 ∧ k.tmod 4 = k % 4 - 4 := by
    by_cases hc : 0 ≤ k ∨ 4 ∣ k
    · rw [if_pos hc] at h
      exact .inl (by omega)
    · rw [if_neg hc, show ((Int.natAbs 4 : Nat) : Int) = 4 from rfl] at h
      generalize k.tmod 4 = t at *
      exact .inr ⟨by omega, h⟩
  have e2 : -4 < k.tmod 4 ∧ k.tmod 4 < 4 := by generalize k.tmod 4 = t at *; omega
  refine ⟨e2.1, e2.2, ?_, e⟩
  generalize k.tmod 4 = t at *
  rw [Int.tmod_eq_emod_of_nonneg (by omega)]
  omega
theorem conv_fi (re : Nat) (x : Int) (h : floatToIntVal .f64 re .i64 = some x) (w : World) : (convert 117 3 (.float .f64 re)).run Try.prog w = .ok (.int .i64 x) w :=
  run_convert_float_int w _ _ .f64 .i64 re x (by rw [Try.underlying117]; rfl) Try.underlying3 h
theorem cmul_at (a b c d re im : Nat) (h : cMulBits a b c d = some (re, im)) (w : World) : (binOp .mul 103 (.complex .f64 a b) (.complex .f64 c d)).run Try.prog w = .ok (.complex .f64 re im) w :=
  run_complex_mul w _ a b c d re im h
theorem point_c (x y : Int) (w : World) : Calls Try.prog 62 #[arr2 x y] w (Ret (.complex .f64 (floatOfInt .f64 x) (floatOfInt .f64 y)) w) := by
  unfold arr2
  go_enter Try.func62, Try.ntmps62
  go_wp2_with fail
  go_ret
  exact ⟨rfl, kept_alloc (kept_refl _) _⟩
theorem corner_c (re im : Nat) (x y : Int) (hx : Rep re x) (hy : Rep im y) (bx : -9223372036854775808 ≤ x ∧ x ≤ 9223372036854775807) (bY : -9223372036854775808 ≤ y ∧ y ≤ 9223372036854775807) (w : World) : Calls Try.prog 61 #[.complex .f64 re im] w (Ret (arr2 x y) w) := by
  have h1 := conv_fi _ _ (rep_toInt hx bx)
  have h2 := conv_fi _ _ (rep_toInt hy bY)
  go_enter Try.func61, Try.ntmps61
  go_wp2_with fail
  refine bodyPost_ret (v := arr2 x y) (by simp [results, Try.results61, go_sem]) rfl ⟨rfl, by go_grown⟩
theorem power_c (k : Int) (h1 : -9223372036854775808 ≤ k) (h2 : k ≤ 9223372036854775807) (w : World) : Calls Try.prog 63 #[.int .i64 k] w (Ret (.complex .f64 (pre k) (pim k)) w) := by
  have e1 := cmul_at 4607182418800017408 0 0 4607182418800017408 0 4607182418800017408 (by decide +kernel)
  have e2 := cmul_at 0 4607182418800017408 0 4607182418800017408 13830554455654793216 0 (by decide +kernel)
  have e3 := cmul_at 13830554455654793216 0 0 4607182418800017408 9223372036854775808 13830554455654793216 (by decide +kernel)
  obtain ⟨t1, t2, t3, _⟩ := tm4 k
  have q : k % 4 = 0 ∨ k % 4 = 1 ∨ k % 4 = 2 ∨ k % 4 = 3 := by omega
  rcases q with q | q | q | q
  · have hm : (k.tmod 4 + 4).tmod 4 = 0 := t3.trans q
    clear t3
    have hp : pre k = 4607182418800017408 := by simp [pre, q]
    have hi : pim k = 0 := by simp [pim, q]
    rw [hp, hi]
    clear hp hi q
    go_enter Try.func63, Try.ntmps63
    go_wp2_with fail
    refine wp_loop_rounds 5 ?_
    rw [rounds_succ]
    go_wp2_with fail
    go_ret
    exact ⟨rfl, kept_refl _⟩
  · have hm : (k.tmod 4 + 4).tmod 4 = 1 := t3.trans q
    clear t3
    have hp : pre k = 0 := by simp [pre, q]
    have hi : pim k = 4607182418800017408 := by simp [pim, q]
    rw [hp, hi]
    clear hp hi q
    go_enter Try.func63, Try.ntmps63
    go_wp2_with fail
    refine wp_loop_rounds 5 ?_
    rw [rounds_succ]
    go_wp2_with fail
    rw [rounds_succ]
    go_wp2_with fail
    go_ret
    exact ⟨rfl, kept_refl _⟩
  · have hm : (k.tmod 4 + 4).tmod 4 = 2 := t3.trans q
    clear t3
    have hp : pre k = 13830554455654793216 := by simp [pre, q]
    have hi : pim k = 0 := by simp [pim, q]
    rw [hp, hi]
    clear hp hi q
    go_enter Try.func63, Try.ntmps63
    go_wp2_with fail
    refine wp_loop_rounds 5 ?_
    rw [rounds_succ]
    go_wp2_with fail
    rw [rounds_succ]
    go_wp2_with fail
    rw [rounds_succ]
    go_wp2_with fail
    go_ret
    exact ⟨rfl, kept_refl _⟩
  · have hm : (k.tmod 4 + 4).tmod 4 = 3 := t3.trans q
    clear t3
    have hp : pre k = 9223372036854775808 := by simp [pre, q]
    have hi : pim k = 13830554455654793216 := by simp [pim, q]
    rw [hp, hi]
    clear hp hi q
    go_enter Try.func63, Try.ntmps63
    go_wp2_with fail
    refine wp_loop_rounds 5 ?_
    rw [rounds_succ]
    go_wp2_with fail
    rw [rounds_succ]
    go_wp2_with fail
    rw [rounds_succ]
    go_wp2_with fail
    rw [rounds_succ]
    go_wp2_with fail
    go_ret
    exact ⟨rfl, kept_refl _⟩
def inb (x : Int) : Bool := decide (-1048576 ≤ x ∧ x ≤ 1048576)
def win (x y : Int) : Bool := inb x && inb y
theorem within_c (x y : Int) (w : World) : Calls Try.prog 64 #[arr2 x y] w (Ret (.bool (win x y)) w) := by
  unfold arr2
  have q := eq2
  go_enter Try.func64, Try.ntmps64
  go_wp2_with fail
  all_goals (go_ret; refine ⟨congrArg (fun b => Ending.returned (Value.bool b)) (?_ : _ = win x y), by go_grown⟩; rw [Bool.eq_iff_iff]; simp [win, inb]; omega)
theorem quarters_c (k : Int) (w : World) : Calls Try.prog 40 #[.int .i64 k] w (fun e w1 => e = .returned (.int .i64 (k % 4)) ∧ w1 = w) := by
  obtain ⟨t1, t2, t3, t4⟩ := tm4 k
  rcases t4 with t4 | t4
  · have hc : ¬ k.tmod 4 < 0 := by omega
    have hv : k.tmod 4 = k % 4 := by omega
    rw [← hv]
    clear hv t4 t3
    go_enter Try.func40, Try.ntmps40
    go_wp2_with fail
    go_ret
    exact ⟨rfl, rfl⟩
  · have hc :  k.tmod 4 < 0 := by omega
    have hv : k.tmod 4 + 4 = k % 4 := by omega
    rw [← hv]
    clear hv t4 t3
    go_enter Try.func40, Try.ntmps40
    go_wp2_with fail
    go_ret
    exact ⟨rfl, rfl⟩
theorem rep_zero : Rep 0 0 := ⟨false, 0, -1074, read_zero false, 0, 1074, by omega, by rw [Int.zero_mul]; rfl⟩
theorem rep_mzero : Rep 9223372036854775808 0 := ⟨true, 0, -1074, read_zero true, 0, 1074, by omega, by rw [Int.zero_mul]; rfl⟩
theorem rep_one : Rep 4607182418800017408 1 := ⟨false, 4503599627370496, -52, by decide +kernel, 0, 52, by omega, by decide⟩
theorem rep_mone : Rep 13830554455654793216 (-1) := ⟨true, 4503599627370496, -52, by decide +kernel, 0, 52, by omega, by decide⟩
def Small (x : Int) : Prop := -4194304 ≤ x ∧ x ≤ 4194304
theorem turn_bits (x y k : Int) (hx : Small x) (hy : Small y) : ∃ re im, cMulBits (floatOfInt .f64 x) (floatOfInt .f64 y) (pre k) (pim k) = some (re, im) ∧ Rep re (rx x y k) ∧ Rep im (ry x y k) := by
  obtain ⟨hx1, hx2⟩ := hx
  obtain ⟨hy1, hy2⟩ := hy
  have a := rep_int x (by omega)
  have b := rep_int y (by omega)
  have q : k % 4 = 0 ∨ k % 4 = 1 ∨ k % 4 = 2 ∨ k % 4 = 3 := by omega
  have key : ∀ (c d : Nat) (u v : Int), Rep c u → Rep d v → (u = 0 ∨ u = 1 ∨ u = -1) → (v = 0 ∨ v = 1 ∨ v = -1) → x * u - y * v = rx x y k → x * v + y * u = ry x y k → ∃ re im, cMulBits (floatOfInt .f64 x) (floatOfInt .f64 y) c d = some (re, im) ∧ Rep re (rx x y k) ∧ Rep im (ry x y k) := by
    intro c d u v hc hd hu hv h1 h2
    have := rep_cmul a b hc hd (by rcases hu with rfl | rfl | rfl <;> omega) (by rcases hv with rfl | rfl | rfl <;> omega) (by rcases hv with rfl | rfl | rfl <;> omega) (by rcases hu with rfl | rfl | rfl <;> omega)
    rwa [h1, h2] at this
  rcases q with q | q | q | q
  · rw [show pre k = 4607182418800017408 by simp [pre, q], show pim k = 0 by simp [pim, q]]
    exact key _ _ 1 0 rep_one rep_zero (by simp) (by simp) (by simp [rx, q]) (by simp [ry, q])
  · rw [show pre k = 0 by simp [pre, q], show pim k = 4607182418800017408 by simp [pim, q]]
    exact key _ _ 0 1 rep_zero rep_one (by simp) (by simp) (by simp [rx, q]) (by simp [ry, q])
  · rw [show pre k = 13830554455654793216 by simp [pre, q], show pim k = 0 by simp [pim, q]]
    exact key _ _ (-1) 0 rep_mone rep_zero (by simp) (by simp) (by simp [rx, q]) (by simp [ry, q])
  · rw [show pre k = 9223372036854775808 by simp [pre, q], show pim k = 13830554455654793216 by simp [pim, q]]
    exact key _ _ 0 (-1) rep_mzero rep_mone (by simp) (by simp) (by simp [rx, q]) (by simp [ry, q])
theorem rot_bd {x y : Int} (k : Int) {l : Int} (hx : -l ≤ x ∧ x ≤ l) (hy : -l ≤ y ∧ y ≤ l) : (-l ≤ rx x y k ∧ rx x y k ≤ l) ∧ (-l ≤ ry x y k ∧ ry x y k ≤ l) := by
  unfold rx ry
  by_cases h0 : k % 4 = 0
  · simp only [h0, if_true]; exact ⟨hx, hy⟩
  by_cases h1 : k % 4 = 1
  · simp only [h1, if_true]; omega
  by_cases h2 : k % 4 = 2
  · simp only [h2, if_true]; omega
  simp only [h0, h1, h2, if_false]; omega
theorem inb_true {x : Int} (h : inb x = true) : -1048576 ≤ x ∧ x ≤ 1048576 := of_decide_eq_true h
theorem inb_small {x : Int} (h : inb x = true) : Small x := by have := inb_true h; exact ⟨by omega, by omega⟩
theorem win_true {x y : Int} (h : win x y = true) : inb x = true ∧ inb y = true := by simpa [win] using h
def px (x y k : Int) : Int := if win x y then rx x y k else 0
def py (x y k : Int) : Int := if win x y then ry x y k else 0
abbrev Ptuple (x y k : Int) : Value := .tuple #[.int .i64 (px x y k), .int .i64 (py x y k), .bool (win x y)]
end Go.Proofs.Ythbbkmkaopgmdaa
/-
  Layer 21 (turn): where points are.
-/
namespace Go.Proofs.Ythbbkmkaopgmdaa
open Go.RowKit BG
attribute [local go_sem ↓] Go.wp_at_zero Go.wp_at_succ
set_option linter.unusedVariables false

def X (xs : List Int) (j : Nat) : Int := nth xs (j * 2)
def Y (xs : List Int) (j : Nat) : Int := nth xs (j * 2 + 1)
def lo (f : Nat → Int) : Nat → Int
  | 0 => f 0
  | j + 1 => min (lo f j) (f j)
def hi (f : Nat → Int) : Nat → Int
  | 0 => f 0
  | j + 1 => max (hi f j) (f j)
def boxOk (xs : List Int) (n : Nat) : Bool := decide (0 < n ∧ ∀ j, j < n → win (X xs j) (Y xs j) = true)
abbrev arr4 (a b c d : Int) : Value := .agg #[.int .i64 a, .int .i64 b, .int .i64 c, .int .i64 d]
def onlyIf (b : Bool) (z : Int) : Int := if b then z else 0
abbrev Btuple (xs : List Int) (n : Nat) : Value := .tuple #[arr4 (onlyIf (boxOk xs n) (lo (X xs) n)) (onlyIf (boxOk xs n) (lo (Y xs) n)) (onlyIf (boxOk xs n) (hi (X xs) n)) (onlyIf (boxOk xs n) (hi (Y xs) n)), .bool (boxOk xs n)]
section
variable {P : Program} (w : World)
theorem run_min21_at (ts : Array TypeId) (t : TypeId) (k k' : IntKind) (x y : Int) : (Builtin.min_ ts t #[.int k x, .int k' y]).run P w = .ok (.int k (min x y)) w := by
  rw [Go.run_min_int2, show (if y < x then y else x) = min x y by split <;> omega]
theorem run_max21_at (ts : Array TypeId) (t : TypeId) (k k' : IntKind) (x y : Int) : (Builtin.max_ ts t #[.int k x, .int k' y]).run P w = .ok (.int k (max x y)) w := by
  rw [Go.run_max_int2, show (if y > x then y else x) = max x y by split <;> omega]
end
attribute [local go_sem ↓] run_min21_at run_max21_at
theorem blk_drew {w : World} {g : Nat} {o : Obj} (h : w.heap[g]? = some o) : w.drew.heap[g]? = some o := h
theorem add_next (ad : Addr) (k : Nat) : (⟨(ad.add k).block, (ad.add k).off + 1, none⟩ : Addr) = ad.add (k + 1) := by
  unfold Addr.add
  by_cases h : k = 0
  · subst h; simp
  · rw [if_neg h, if_neg (by omega)]; simp; omega
theorem Rd.point {w : World} {A : Option Addr} {xs : List Int} {n j : Nat} (h : Rd .i64 w A xs) (hl : xs.length = 2 * n) (hj : j < n) : ∃ ad, A = some ad ∧ w.cell? (ad.add (j * 2)) = some (.int .i64 (X xs j)) ∧ w.cell? ⟨(ad.add (j * 2)).block, (ad.add (j * 2)).off + 1, none⟩ = some (.int .i64 (Y xs j)) := by
  obtain ⟨ad, e, hc⟩ := h.2 (by omega)
  exact ⟨ad, e, hc (j * 2) (by omega), by rw [add_next]; exact hc (j * 2 + 1) (by omega)⟩
theorem box_c (A : Option Addr) (cap : Nat) (xs : List Int) (n : Nat) (hl : xs.length = 2 * n) (w : World) (hr : Rd .i64 w A xs) :
    Calls Try.prog 39 #[.slice A n cap] w (Ret (Btuple xs n) w) := by
  have hm := hr.1
  rcases Nat.eq_zero_or_pos n with rfl | hn
  · have h0 : boxOk xs 0 = false := by simp [boxOk]
    unfold Btuple
    rw [h0]
    simp only [onlyIf, Bool.false_eq_true, if_false]
    clear h0
    go_enter Try.func39, Try.ntmps39
    go_wp2_with fail
    refine bodyPost_ret (v := .tuple #[arr4 0 0 0 0, .bool false]) (by simp [results, Try.results39, go_sem, arr4]) rfl ⟨rfl, by go_grown⟩
  · have hne : ((n : Int) == 0) = false := by rw [beq_eq_false_iff_ne]; omega
    obtain ⟨ad, rfl, c0, c1⟩ := hr.point hl hn
    simp only [Addr.add] at c0 c1
    simp at c0 c1
    have Z : Kept w (w.alloc (.cells #[.int .i64 0, .int .i64 0, .int .i64 0, .int .i64 0] 81)) := kept_alloc (kept_refl w) _
    have Z2 := kept_alloc Z (.cells #[.int .i64 0, .int .i64 0, .int .i64 0, .int .i64 0] 81)
    have d0 := kept_cell Z c0
    have d1 := kept_cell Z c1
    have f0 := kept_cell Z2 c0
    have f1 := kept_cell Z2 c1
    have Z3 := kept_alloc Z (.cells #[.int .i64 (X xs 0), .int .i64 (Y xs 0), .int .i64 (X xs 0), .int .i64 (Y xs 0)] 81)
    go_enter Try.func39, Try.ntmps39
    go_wp2_with fail
    go_big_region
    clear f0 f1 d0 d1 Z Z2
    go_wp2_with fail
    go_loopw [30] (fun i wr => ∃ j : Nat, j ≤ n ∧ i = .int .i64 j ∧ wr.heap[w.heap.size]? = some (.cells #[.int .i64 0, .int .i64 0, .int .i64 0, .int .i64 0] 81 (0, 0)) ∧ wr.heap[w.heap.size + 1]? = some (.cells #[.int .i64 (lo (X xs) j), .int .i64 (lo (Y xs) j), .int .i64 (hi (X xs) j), .int .i64 (hi (Y xs) j)] 81 (0, 0)) ∧ Kept w wr ∧ Hid (∀ q, q < j → win (X xs q) (Y xs q) = true)) (fun i _ => n - (intOf i).toNat)
    case atStart => exact ⟨0, Nat.zero_le _, rfl, blk_drew (blk_alloc (blk_new w _) _), blk_drew (blk_new1 w _ _), kept_drew Z3, fun q hq => absurd hq (Nat.not_lt_zero q)⟩
    case round =>
      obtain ⟨j, hj, rfl, hz, ho, hk, HQ⟩ := hrel
      clear c0 c1
      by_cases hlt : j < n
      · obtain ⟨_, hx, c0, c1⟩ := (hr.kept hk).point hl hlt
        cases hx
        have hp := blk_new wr (.cells #[.int .i64 (X xs j), .int .i64 (Y xs j)] 53)
        have kp := kept_alloc (kept_refl wr) (.cells #[.int .i64 (X xs j), .int .i64 (Y xs j)] 53)
        cases hwin : win (X xs j) (Y xs j)
        · go_wp2_with fail
          refine (within_c (X xs j) (Y xs j) _).mono ?_
          rintro e w1 ⟨rfl, hk1⟩
          replace hz := blk_kept (kept_trans kp hk1) hz
          have z0 : _ = some (Value.int .i64 0) := blk_cell hz 0
          have z1 : _ = some (Value.int .i64 0) := blk_cell hz 1
          have z2 : _ = some (Value.int .i64 0) := blk_cell hz 2
          have z3 : _ = some (Value.int .i64 0) := blk_cell hz 3
          have zf0 := blk_frozen hz 0
          have zf1 := blk_frozen hz 1
          have zf2 := blk_frozen hz 2
          have zf3 := blk_frozen hz 3
          clear ho c0 c1
          go_wp2_with fail
          have S0 : (w1.setCell ⟨w.heap.size, 0, none⟩ (.int .i64 (0))).heap[w.heap.size]? = some (.cells #[.int .i64 (0), .int .i64 (0), .int .i64 (0), .int .i64 (0)] 81 (0, 0)) := blk_set hz 0 _
          have S1 : ((w1.setCell ⟨w.heap.size, 0, none⟩ (.int .i64 (0))).setCell ⟨w.heap.size, 1, none⟩ (.int .i64 (0))).heap[w.heap.size]? = some (.cells #[.int .i64 (0), .int .i64 (0), .int .i64 (0), .int .i64 (0)] 81 (0, 0)) := blk_set S0 1 _
          have S2 : (((w1.setCell ⟨w.heap.size, 0, none⟩ (.int .i64 (0))).setCell ⟨w.heap.size, 1, none⟩ (.int .i64 (0))).setCell ⟨w.heap.size, 2, none⟩ (.int .i64 (0))).heap[w.heap.size]? = some (.cells #[.int .i64 (0), .int .i64 (0), .int .i64 (0), .int .i64 (0)] 81 (0, 0)) := blk_set S1 2 _
          have S3 : ((((w1.setCell ⟨w.heap.size, 0, none⟩ (.int .i64 (0))).setCell ⟨w.heap.size, 1, none⟩ (.int .i64 (0))).setCell ⟨w.heap.size, 2, none⟩ (.int .i64 (0))).setCell ⟨w.heap.size, 3, none⟩ (.int .i64 (0))).heap[w.heap.size]? = some (.cells #[.int .i64 (0), .int .i64 (0), .int .i64 (0), .int .i64 (0)] 81 (0, 0)) := blk_set S2 3 _
          have r0 := blk_cell S3 0
          have r1 := blk_cell S3 1
          have r2 := blk_cell S3 2
          have r3 := blk_cell S3 3
          have hno : boxOk xs n = false := by
            simp only [boxOk, decide_eq_false_iff_not]
            rintro ⟨_, h⟩
            rw [h j hlt] at hwin
            cases hwin
          refine bodyPost_ret (v := .tuple #[arr4 0 0 0 0, .bool false]) (by simp [results, Try.results39, go_sem, arr4, r0, r1, r2, r3]) rfl ⟨by unfold Btuple; rw [hno]; rfl, ?_⟩
          exact kept_set (kept_set (kept_set (kept_set (kept_trans hk (kept_trans kp hk1)) (p := ⟨w.heap.size, 0, none⟩) (Nat.le_refl _) _) (p := ⟨w.heap.size, 1, none⟩) (Nat.le_refl _) _) (p := ⟨w.heap.size, 2, none⟩) (Nat.le_refl _) _) (p := ⟨w.heap.size, 3, none⟩) (Nat.le_refl _) _
        · go_wp2_with fail
          refine (within_c (X xs j) (Y xs j) _).mono ?_
          rintro e w1 ⟨rfl, hk1⟩
          rw [hwin]
          replace ho := blk_kept (kept_trans kp hk1) ho
          replace hz := blk_kept (kept_trans kp hk1) hz
          replace hp := blk_kept hk1 hp
          have p0 : _ = some (Value.int .i64 (X xs j)) := blk_cell hp 0
          have p1 : _ = some (Value.int .i64 (Y xs j)) := blk_cell hp 1
          have o0 : _ = some (Value.int .i64 (lo (X xs) j)) := blk_cell ho 0
          have o1 : _ = some (Value.int .i64 (lo (Y xs) j)) := blk_cell ho 1
          have o2 : _ = some (Value.int .i64 (hi (X xs) j)) := blk_cell ho 2
          have o3 : _ = some (Value.int .i64 (hi (Y xs) j)) := blk_cell ho 3
          have of0 := blk_frozen ho 0
          have of1 := blk_frozen ho 1
          have of2 := blk_frozen ho 2
          have of3 := blk_frozen ho 3
          clear c0 c1
          go_wp2_with fail
          have S0 : (w1.setCell ⟨w.heap.size + 1, 0, none⟩ (.int .i64 (min (lo (X xs) j) (X xs j)))).heap[w.heap.size + 1]? = some (.cells #[.int .i64 (min (lo (X xs) j) (X xs j)), .int .i64 (lo (Y xs) j), .int .i64 (hi (X xs) j), .int .i64 (hi (Y xs) j)] 81 (0, 0)) := blk_set ho 0 _
          have S1 : ((w1.setCell ⟨w.heap.size + 1, 0, none⟩ (.int .i64 (min (lo (X xs) j) (X xs j)))).setCell ⟨w.heap.size + 1, 1, none⟩ (.int .i64 (min (lo (Y xs) j) (Y xs j)))).heap[w.heap.size + 1]? = some (.cells #[.int .i64 (min (lo (X xs) j) (X xs j)), .int .i64 (min (lo (Y xs) j) (Y xs j)), .int .i64 (hi (X xs) j), .int .i64 (hi (Y xs) j)] 81 (0, 0)) := blk_set S0 1 _
          have S2 : (((w1.setCell ⟨w.heap.size + 1, 0, none⟩ (.int .i64 (min (lo (X xs) j) (X xs j)))).setCell ⟨w.heap.size + 1, 1, none⟩ (.int .i64 (min (lo (Y xs) j) (Y xs j)))).setCell ⟨w.heap.size + 1, 2, none⟩ (.int .i64 (max (hi (X xs) j) (X xs j)))).heap[w.heap.size + 1]? = some (.cells #[.int .i64 (min (lo (X xs) j) (X xs j)), .int .i64 (min (lo (Y xs) j) (Y xs j)), .int .i64 (max (hi (X xs) j) (X xs j)), .int .i64 (hi (Y xs) j)] 81 (0, 0)) := blk_set S1 2 _
          have S3 : ((((w1.setCell ⟨w.heap.size + 1, 0, none⟩ (.int .i64 (min (lo (X xs) j) (X xs j)))).setCell ⟨w.heap.size + 1, 1, none⟩ (.int .i64 (min (lo (Y xs) j) (Y xs j)))).setCell ⟨w.heap.size + 1, 2, none⟩ (.int .i64 (max (hi (X xs) j) (X xs j)))).setCell ⟨w.heap.size + 1, 3, none⟩ (.int .i64 (max (hi (Y xs) j) (Y xs j)))).heap[w.heap.size + 1]? = some (.cells #[.int .i64 (min (lo (X xs) j) (X xs j)), .int .i64 (min (lo (Y xs) j) (Y xs j)), .int .i64 (max (hi (X xs) j) (X xs j)), .int .i64 (max (hi (Y xs) j) (Y xs j))] 81 (0, 0)) := blk_set S2 3 _
          have hne' : w.heap.size ≠ w.heap.size + 1 := by omega
          have hle' : w.heap.size ≤ w.heap.size + 1 := by omega
          refine ⟨⟨j + 1, by omega, by go_num, ?_, S3, ?_, fun q hq => by
            rcases Nat.lt_or_ge q j with h | h
            · exact HQ q h
            · obtain rfl : q = j := by omega
              exact hwin⟩, by simp [intOf]; omega⟩
          · exact blk_far (blk_far (blk_far (blk_far hz (p := ⟨w.heap.size + 1, 0, none⟩) hne' _) (p := ⟨w.heap.size + 1, 1, none⟩) hne' _) (p := ⟨w.heap.size + 1, 2, none⟩) hne' _) (p := ⟨w.heap.size + 1, 3, none⟩) hne' _
          · exact kept_set (kept_set (kept_set (kept_set (kept_trans hk (kept_trans kp hk1)) (p := ⟨w.heap.size + 1, 0, none⟩) hle' _) (p := ⟨w.heap.size + 1, 1, none⟩) hle' _) (p := ⟨w.heap.size + 1, 2, none⟩) hle' _) (p := ⟨w.heap.size + 1, 3, none⟩) hle' _
      · obtain rfl : j = n := by omega
        have hyes : boxOk xs j = true := by
          simp only [boxOk, decide_eq_true_eq]
          exact ⟨hn, HQ⟩
        have HY := Lib.hid hyes
        clear hyes
        have o0 : _ = some (Value.int .i64 (lo (X xs) j)) := blk_cell ho 0
        have o1 : _ = some (Value.int .i64 (lo (Y xs) j)) := blk_cell ho 1
        have o2 : _ = some (Value.int .i64 (hi (X xs) j)) := blk_cell ho 2
        have o3 : _ = some (Value.int .i64 (hi (Y xs) j)) := blk_cell ho 3
        have z0 : _ = some (Value.int .i64 0) := blk_cell hz 0
        have z1 : _ = some (Value.int .i64 0) := blk_cell hz 1
        have z2 : _ = some (Value.int .i64 0) := blk_cell hz 2
        have z3 : _ = some (Value.int .i64 0) := blk_cell hz 3
        have zf0 := blk_frozen hz 0
        have zf1 := blk_frozen hz 1
        have zf2 := blk_frozen hz 2
        have zf3 := blk_frozen hz 3
        go_wp2_with fail
        have S0 : (wr.setCell ⟨w.heap.size, 0, none⟩ (.int .i64 (lo (X xs) j))).heap[w.heap.size]? = some (.cells #[.int .i64 (lo (X xs) j), .int .i64 (0), .int .i64 (0), .int .i64 (0)] 81 (0, 0)) := blk_set hz 0 _
        have S1 : ((wr.setCell ⟨w.heap.size, 0, none⟩ (.int .i64 (lo (X xs) j))).setCell ⟨w.heap.size, 1, none⟩ (.int .i64 (lo (Y xs) j))).heap[w.heap.size]? = some (.cells #[.int .i64 (lo (X xs) j), .int .i64 (lo (Y xs) j), .int .i64 (0), .int .i64 (0)] 81 (0, 0)) := blk_set S0 1 _
        have S2 : (((wr.setCell ⟨w.heap.size, 0, none⟩ (.int .i64 (lo (X xs) j))).setCell ⟨w.heap.size, 1, none⟩ (.int .i64 (lo (Y xs) j))).setCell ⟨w.heap.size, 2, none⟩ (.int .i64 (hi (X xs) j))).heap[w.heap.size]? = some (.cells #[.int .i64 (lo (X xs) j), .int .i64 (lo (Y xs) j), .int .i64 (hi (X xs) j), .int .i64 (0)] 81 (0, 0)) := blk_set S1 2 _
        have S3 : ((((wr.setCell ⟨w.heap.size, 0, none⟩ (.int .i64 (lo (X xs) j))).setCell ⟨w.heap.size, 1, none⟩ (.int .i64 (lo (Y xs) j))).setCell ⟨w.heap.size, 2, none⟩ (.int .i64 (hi (X xs) j))).setCell ⟨w.heap.size, 3, none⟩ (.int .i64 (hi (Y xs) j))).heap[w.heap.size]? = some (.cells #[.int .i64 (lo (X xs) j), .int .i64 (lo (Y xs) j), .int .i64 (hi (X xs) j), .int .i64 (hi (Y xs) j)] 81 (0, 0)) := blk_set S2 3 _
        have r0 := blk_cell S3 0
        have r1 := blk_cell S3 1
        have r2 := blk_cell S3 2
        have r3 := blk_cell S3 3
        refine bodyPost_ret (v := .tuple #[arr4 (lo (X xs) j) (lo (Y xs) j) (hi (X xs) j) (hi (Y xs) j), .bool true]) (by simp [results, Try.results39, go_sem, arr4, r0, r1, r2, r3]) rfl ⟨by unfold Btuple; rw [HY.out]; rfl, ?_⟩
        exact kept_set (kept_set (kept_set (kept_set hk (p := ⟨w.heap.size, 0, none⟩) (Nat.le_refl _) _) (p := ⟨w.heap.size, 1, none⟩) (Nat.le_refl _) _) (p := ⟨w.heap.size, 2, none⟩) (Nat.le_refl _) _) (p := ⟨w.heap.size, 3, none⟩) (Nat.le_refl _) _
end Go.Proofs.Ythbbkmkaopgmdaa
/-
  Layer 21 (turn): where points are, by the document.
-/
namespace Go.Proofs.Ythbbkmkaopgmdaa
open Go.RowKit BG
attribute [local go_sem ↓] Go.wp_at_zero Go.wp_at_succ
set_option linter.unusedVariables false

def pz (j : Nat) (v : Int) : Int := if j = 0 then 0 else v
theorem pz_succ (j : Nat) (v : Int) : pz (j + 1) v = v := by simp [pz]
theorem min_yes {a b : Int} (h : b < a) : min a b = b := by omega
theorem min_no {a b : Int} (h : a ≤ b) : min a b = a := by omega
theorem max_yes {a b : Int} (h : a < b) : max a b = b := by omega
theorem max_no {a b : Int} (h : b ≤ a) : max a b = a := by omega
end Go.Proofs.Ythbbkmkaopgmdaa
/-
  Layer 21 (turn): points turned, and moved.
-/
namespace Go.Proofs.Ythbbkmkaopgmdaa
open Go.RowKit BG
attribute [local go_sem ↓] Go.wp_at_zero Go.wp_at_succ
set_option linter.unusedVariables false

/-- n points, one behind the other. -/
def flat (n : Nat) (f g : Nat → Int) : List Int := (List.range n).flatMap fun j => [f j, g j]
theorem flat_succ (n : Nat) (f g : Nat → Int) : flat (n + 1) f g = flat n f g ++ [f n, g n] := by simp [flat, List.range_succ]
theorem flat_length (n : Nat) (f g : Nat → Int) : (flat n f g).length = 2 * n := by
  induction n with
  | zero => rfl
  | succ n ih => rw [flat_succ, List.length_append, ih]; simp; omega
theorem flat_at (f g : Nat → Int) : ∀ (n j : Nat), j < n → X (flat n f g) j = f j ∧ Y (flat n f g) j = g j := by
  intro n
  induction n with
  | zero => intro j h; omega
  | succ n ih =>
    intro j h
    rw [flat_succ]
    have hl := flat_length n f g
    unfold X Y nth
    rw [List.getD_eq_getElem?_getD, List.getD_eq_getElem?_getD]
    rcases Nat.lt_or_ge j n with h' | h'
    · rw [List.getElem?_append_left (by omega), List.getElem?_append_left (by omega)]
      have := ih j h'
      unfold X Y nth at this
      rwa [List.getD_eq_getElem?_getD, List.getD_eq_getElem?_getD] at this
    · obtain rfl : j = n := by omega
      rw [List.getElem?_append_right (by omega), List.getElem?_append_right (by omega), show j * 2 - (flat j f g).length = 0 by omega, show j * 2 + 1 - (flat j f g).length = 1 by omega]
      simp
/-- Points that the call has made. -/
def Own2 (base : Nat) (w : World) (v : Value) (n : Nat) (xs : List Int) : Prop := w.ownsRow base 53 2 v n (xs.map (Value.int .i64))
theorem Own2.nil (base : Nat) (w : World) : Own2 base w (.slice none 0 0) 0 [] := ⟨by simp, .inl ⟨rfl, rfl⟩⟩
theorem Own2.kept {base n : Nat} {w w1 : World} {v : Value} {xs : List Int} (h : Own2 base w v n xs) (hk : Kept w w1) : Own2 base w1 v n xs :=
  World.ownsRow.kept h (⟨hk.os, hk.tape, hk.output, hk.size, fun i hi _ => hk.block i hi⟩ : w.grownBy w1 none) (by cases v.ownBlock <;> simp)
theorem Own2.rd {base n : Nat} {w : World} {v : Value} {xs : List Int} (h : Own2 base w v n xs) (hb : n ≤ 1000000000000000) : ∃ A c, v = .slice A n c ∧ xs.length = 2 * n ∧ Rd .i64 w A xs := by
  have hl : xs.length = 2 * n := by have := h.1; rw [List.length_map] at this; omega
  rcases h.2 with ⟨rfl, rfl⟩ | ⟨g, cap, cur, rfl, _, _, h1, h2, _⟩
  · exact ⟨none, 0, rfl, hl, by omega, fun hp => by omega⟩
  · refine ⟨_, cap, rfl, hl, by omega, fun _ => ⟨_, rfl, fun j hj => World.ownsRow.cells h (g := g) rfl j _ ?_⟩⟩
    rw [List.getElem?_map, List.getElem?_eq_getElem hj, Option.map_some, nth_lt hj]
theorem Own2.pos {base n : Nat} {w : World} {v : Value} {xs : List Int} (h : Own2 base w v n xs) (hn : 0 < n) (hb : n ≤ 1000000000000000) : ∃ g c, v = .slice (some ⟨g, 0, none⟩) n c ∧ xs.length = 2 * n ∧ Rd .i64 w (some ⟨g, 0, none⟩) xs := by
  obtain ⟨A, c, rfl, hl, hr⟩ := h.rd hb
  rcases h.2 with ⟨h', _⟩ | ⟨g, cap, cur, h', _⟩
  · simp at h'; omega
  · simp only [Value.slice.injEq] at h'
    obtain ⟨rfl, _, rfl⟩ := h'
    exact ⟨g, c, rfl, hl, hr⟩
theorem Own2.cell {base n g c : Nat} {w : World} {xs : List Int} (h : Own2 base w (.slice (some ⟨g, 0, none⟩) n c) n xs) (hl : xs.length = 2 * n) {j : Nat} (hj : j < n) : w.cell? ⟨g, j * 2, none⟩ = some (.int .i64 (X xs j)) ∧ w.cell? ⟨g, j * 2 + 1, none⟩ = some (.int .i64 (Y xs j)) := by
  have h1 := World.ownsRow.cellAt h (j * 2) (by omega)
  have h2 := World.ownsRow.cellAt h (j * 2 + 1) (by omega)
  rw [List.getElem?_map, List.getElem?_eq_getElem (by omega), Option.map_some, ← nth_lt (by omega)] at h1 h2
  exact ⟨h1, h2⟩
theorem flat_congr {f g f' g' : Nat → Int} : ∀ {n : Nat}, (∀ q, q < n → f q = f' q ∧ g q = g' q) → flat n f g = flat n f' g' := by
  intro n
  induction n with
  | zero => intro _; rfl
  | succ n ih =>
    intro h
    have h1 := h n (by omega)
    rw [flat_succ, flat_succ, ih fun q hq => h q (by omega), h1.1, h1.2]
theorem flat_set (f g : Nat → Int) (u v : Int) : ∀ (n j : Nat), j < n → ((flat n f g).set (j * 2) u).set (j * 2 + 1) v = flat n (fun q => if q = j then u else f q) (fun q => if q = j then v else g q) := by
  intro n
  induction n with
  | zero => intro j h; omega
  | succ n ih =>
    intro j h
    have hl := flat_length n f g
    rw [flat_succ, flat_succ]
    rcases Nat.lt_or_ge j n with h' | h'
    · rw [List.set_append_left _ _ (by omega), List.set_append_left _ _ (by rw [List.length_set]; omega), ih j h', if_neg (by omega), if_neg (by omega)]
    · obtain rfl : j = n := by omega
      rw [List.set_append_right _ _ (by omega), List.set_append_right _ _ (by omega), show j * 2 - (flat j f g).length = 0 by omega, show j * 2 + 1 - (flat j f g).length = 1 by omega]
      simp only [if_true]
      congr 1
      refine flat_congr fun q hq => ?_
      rw [if_neg (by omega), if_neg (by omega)]
      exact ⟨rfl, rfl⟩
theorem Own2.store {w0 : World} {base n g c : Nat} {w : World} {f k : Nat → Int} (h : Own2 base w (.slice (some ⟨g, 0, none⟩) n c) n (flat n f k)) (hk : Kept w0 w) (hb : w0.heap.size ≤ base) {j : Nat} (hj : j < n) (u v : Int) :
    Own2 base ((w.setCell ⟨g, j * 2, none⟩ (.int .i64 u)).setCell ⟨g, j * 2 + 1, none⟩ (.int .i64 v)) (.slice (some ⟨g, 0, none⟩) n c) n (flat n (fun q => if q = j then u else f q) (fun q => if q = j then v else k q)) ∧ Kept w0 ((w.setCell ⟨g, j * 2, none⟩ (.int .i64 u)).setCell ⟨g, j * 2 + 1, none⟩ (.int .i64 v)) := by
  obtain ⟨h1, g1⟩ := World.ownsRow.stored h (j * 2) (.int .i64 u)
  obtain ⟨h2, g2⟩ := World.ownsRow.stored h1 (j * 2 + 1) (.int .i64 v)
  refine ⟨?_, kept_grown (kept_grown hk h hb g1) h1 hb g2⟩
  unfold Own2
  rw [← flat_set f k u v n j hj, List.map_set, List.map_set]
  exact h2
theorem lo_bd {f : Nat → Int} {n : Nat} {a b : Int} (hn : 0 < n) (h : ∀ q, q < n → a ≤ f q ∧ f q ≤ b) : ∀ m, m ≤ n → a ≤ lo f m ∧ lo f m ≤ b := by
  intro m
  induction m with
  | zero => intro _; exact h 0 hn
  | succ m ih =>
    intro hm
    have h1 := ih (by omega)
    have h2 := h m (by omega)
    show a ≤ min (lo f m) (f m) ∧ min (lo f m) (f m) ≤ b
    omega
theorem csub_at (a b c d re im : Nat) (h : cSumBits .sub .f64 a b c d = some (re, im)) (w : World) : (binOp .sub 103 (.complex .f64 a b) (.complex .f64 c d)).run Try.prog w = .ok (.complex .f64 re im) w :=
  run_complex_sum w .sub (.inr rfl) _ .f64 a b c d re im h
theorem info_p2 : (Try.prog.info? 53).map (fun i => (i.zero, i.size, i.bytes)) = some (some (.agg #[.int .i64 0, .int .i64 0]), 2, 16) := by kernel_rfl
def rotv (xs : List Int) (k : Int) (n : Nat) : List Int := flat n (fun j => rx (X xs j) (Y xs j) k) (fun j => ry (X xs j) (Y xs j) k)
def ptsv (xs : List Int) (k : Int) (n : Nat) : List Int := if boxOk xs n then flat n (fun j => rx (X xs j) (Y xs j) k - lo (X (rotv xs k n)) n) (fun j => ry (X xs j) (Y xs j) k - lo (Y (rotv xs k n)) n) else []
set_option maxRecDepth 100000 in
theorem points_c (A : Option Addr) (cap : Nat) (xs : List Int) (n : Nat) (hl : xs.length = 2 * n) (k : Int) (k1 : -9223372036854775808 ≤ k) (k2 : k ≤ 9223372036854775807) (hreach : n * 16 ≤ 140737488351232) (w : World) (hr : Rd .i64 w A xs) :
    Calls Try.prog 38 #[.slice A n cap, .int .i64 k] w fun e w' => ∃ v, e = .returned (.tuple #[v, .bool (boxOk xs n)]) ∧ Own2 w.heap.size w' v (if boxOk xs n then n else 0) (ptsv xs k n) ∧ Kept w w' := by
  have hm := hr.1
  have HB := box_c A cap xs n hl w hr
  cases hok : boxOk xs n
  · unfold Btuple at HB
    rw [hok] at HB
    simp only [onlyIf, Bool.false_eq_true, if_false] at HB
    have HO := Lib.hid hok
    clear hok
    go_enter Try.func38, Try.ntmps38
    go_wp2_with fail
    refine HB.mono ?_
    rintro e w1 ⟨rfl, hk1⟩
    go_wp2_with fail
    go_ret2
    exact ⟨_, rfl, by unfold ptsv; rw [HO.out]; exact Own2.nil _ _, kept_alloc hk1 _⟩
  · obtain ⟨i0, hi, hz0, hz1, hz2⟩ := info_parts info_p2
    unfold Btuple at HB
    rw [hok] at HB
    simp only [onlyIf, if_true] at HB
    obtain ⟨hn, hall⟩ : 0 < n ∧ ∀ j, j < n → win (X xs j) (Y xs j) = true := by simpa [boxOk] using hok
    have HALL := Lib.hid hall
    have HO := Lib.hid hok
    clear hall hok
    go_enter Try.func38, Try.ntmps38
    go_wp2_with fail
    refine HB.mono ?_
    rintro e w1 ⟨rfl, hk1⟩
    clear HB
    go_wp2_with fail
    go_loopw [8, 25] (fun v i wr => ∃ j : Nat, j ≤ n ∧ i = .int .i64 j ∧ Own2 w.heap.size wr v j (rotv xs k j) ∧ Kept w wr) (fun _ i _ => n - (intOf i).toNat)
    case atStart => exact ⟨0, Nat.zero_le _, rfl, Own2.nil _ _, kept_alloc hk1 _⟩
    case round =>
      obtain ⟨j, hj, rfl, hown, hk⟩ := hrel
      by_cases hlt : j < n
      · obtain ⟨ad, rfl, c0, c1⟩ := (hr.kept hk).point hl hlt
        obtain ⟨i1, i2⟩ := win_true (HALL.out j hlt)
        obtain ⟨re, im, hcm, r1, r2⟩ := turn_bits (X xs j) (Y xs j) k (inb_small i1) (inb_small i2)
        obtain ⟨b1, b2⟩ := rot_bd k (inb_true i1) (inb_true i2)
        have hcm := cmul_at _ _ _ _ _ _ hcm
        have C := corner_c re im _ _ r1 r2 (by omega) (by omega)
        unfold arr2 at C
        clear r1 r2 i1 i2 b1 b2
        go_wp2_with fail
        refine (point_c (X xs j) (Y xs j) _).mono ?_
        rintro e w2 ⟨rfl, hk2⟩
        go_wp2_with fail
        refine (power_c k k1 k2 _).mono ?_
        rintro e w3 ⟨rfl, hk3⟩
        go_wp2_with fail
        refine (C _).mono ?_
        rintro e w4 ⟨rfl, hk4⟩
        have K := kept_trans (kept_alloc (kept_refl wr) _) (kept_trans hk2 (kept_trans hk3 hk4))
        have hown2 := hown.kept K
        have hk' := kept_trans hk K
        clear hk2 hk3 hk4 c0 c1 hown hcm C
        have hbase : w.heap.size ≤ w4.heap.size := hk'.size
        unfold Own2 at hown2
        go_wp2_with (at_builtin; refine wpList_append_own _ rfl _ _ 35 rfl w.heap.size 53 i0 (.agg #[.int .i64 0, .int .i64 0]) 2 16 Try.underlying35 hi hz0 hz1 hz2 rfl (by decide) _ _ _ rfl (World.ownsRow.alloc hown2 _) ⟨w4.heap.size, 0, none⟩ 1 1 [.int .i64 (rx (X xs j) (Y xs j) k), .int .i64 (ry (X xs j) (Y xs j) k)] rfl rfl ?c1 ?c2 ?c3 ?c4 ?c5 ?_)
        case c1 =>
          intro q u hq
          match q, hq with
          | 0, hq => simp at hq; subst hq; simp [Addr.add]
          | 1, hq => simp at hq; subst hq; simp [Addr.add]
        case c2 => intro u hu; simp at hu; rcases hu with rfl | rfl <;> rfl
        case c3 => unfold maxLen; omega
        case c4 => omega
        case c5 => simp; omega
        · intro v' w5 hown' hgrow _
          have R : Own2 w.heap.size w5 v' (j + 1) (rotv xs k (j + 1)) := by
            unfold Own2 rotv
            rw [flat_succ, List.map_append]
            exact hown'
          have K5 := kept_grown (kept_alloc hk' _) (World.ownsRow.alloc hown2 _) (Nat.le_refl _) hgrow
          clear hown' hgrow hown2
          go_wp2_with fail
          exact ⟨⟨j + 1, by omega, by go_num, R, K5⟩, by simp [intOf]; omega⟩
      · obtain rfl : j = n := by omega
        obtain ⟨g, c', rfl, hl', hr'⟩ := hown.pos hn (by omega)
        have HB := box_c (some ⟨g, 0, none⟩) c' (rotv xs k j) j hl' wr hr'
        have hrot : ∀ q, q < j → (-1048576 ≤ rx (X xs q) (Y xs q) k ∧ rx (X xs q) (Y xs q) k ≤ 1048576) ∧ (-1048576 ≤ ry (X xs q) (Y xs q) k ∧ ry (X xs q) (Y xs q) k ≤ 1048576) := by
          intro q hq
          obtain ⟨i1, i2⟩ := win_true (HALL.out q hq)
          exact rot_bd k (inb_true i1) (inb_true i2)
        have hat : ∀ q, q < j → X (rotv xs k j) q = rx (X xs q) (Y xs q) k ∧ Y (rotv xs k j) q = ry (X xs q) (Y xs q) k := fun q hq => flat_at (fun j => rx (X xs j) (Y xs j) k) (fun j => ry (X xs j) (Y xs j) k) j q hq
        have hok' : boxOk (rotv xs k j) j = true := by
          simp only [boxOk, decide_eq_true_eq]
          refine ⟨hn, fun q hq => ?_⟩
          rw [(hat q hq).1, (hat q hq).2]
          have b := hrot q hq
          simp [win, inb, b.1, b.2]
        have l1 : -1048576 ≤ lo (X (rotv xs k j)) j ∧ lo (X (rotv xs k j)) j ≤ 1048576 := lo_bd hn (fun q hq => by rw [(hat q hq).1]; exact (hrot q hq).1) j (Nat.le_refl _)
        have l2 : -1048576 ≤ lo (Y (rotv xs k j)) j ∧ lo (Y (rotv xs k j)) j ≤ 1048576 := lo_bd hn (fun q hq => by rw [(hat q hq).2]; exact (hrot q hq).2) j (Nat.le_refl _)
        have HROT := Lib.hid hrot
        clear hrot hat
        unfold Btuple at HB
        rw [hok'] at HB
        simp only [onlyIf, if_true] at HB
        clear hok'
        generalize hlx : lo (X (rotv xs k j)) j = lx at *
        generalize hly : lo (Y (rotv xs k j)) j = ly at *
        have HX := Lib.hid hlx
        have HY := Lib.hid hly
        clear hlx hly
        go_wp2_with fail
        refine HB.mono ?_
        rintro e w2 ⟨rfl, hk2⟩
        clear HB
        go_wp2_with fail
        refine (point_c lx ly _).mono ?_
        rintro e w3 ⟨rfl, hk3⟩
        have K3 := kept_trans hk2 (kept_trans (kept_alloc (kept_refl _) _) hk3)
        replace hown := hown.kept K3
        replace hk := kept_trans hk K3
        clear hk2 hk3 K3 hr' hl'
        go_wp2_with fail
        go_loopw [52] (fun i wx => ∃ q : Nat, q ≤ j ∧ i = .int .i64 q ∧ Own2 w.heap.size wx (.slice (some ⟨g, 0, none⟩) j c') j (flat j (fun p => if p < q then rx (X xs p) (Y xs p) k - lx else rx (X xs p) (Y xs p) k) (fun p => if p < q then ry (X xs p) (Y xs p) k - ly else ry (X xs p) (Y xs p) k)) ∧ Kept w wx) (fun i _ => j - (intOf i).toNat)
        case atStart => exact ⟨0, Nat.zero_le _, rfl, by simpa [rotv] using hown, hk⟩
        case round =>
          clear hown hk
          obtain ⟨q, hq, rfl, hown, hk⟩ := hrel
          by_cases hlt : q < j
          · obtain ⟨d0, d1⟩ := hown.cell (flat_length _ _ _) hlt
            obtain ⟨e1, e2⟩ := flat_at (fun p => if p < q then rx (X xs p) (Y xs p) k - lx else rx (X xs p) (Y xs p) k) (fun p => if p < q then ry (X xs p) (Y xs p) k - ly else ry (X xs p) (Y xs p) k) j q hlt
            rw [e1] at d0
            rw [e2] at d1
            simp only [Nat.lt_irrefl, if_false] at d0 d1
            clear e1 e2
            obtain ⟨b1, b2⟩ := HROT.out q hlt
            generalize hA : rx (X xs q) (Y xs q) k = x at *
            generalize hB : ry (X xs q) (Y xs q) k = y at *
            have HA := Lib.hid hA
            have HB := Lib.hid hB
            obtain ⟨re, im, hcs, r1, r2⟩ := rep_csub (rep_int x (by omega)) (rep_int y (by omega)) (rep_int lx (by omega)) (rep_int ly (by omega)) (by omega) (by omega)
            have hcs := csub_at _ _ _ _ _ _ hcs
            have C := corner_c re im _ _ r1 r2 (by omega) (by omega)
            unfold arr2 at C
            clear r1 r2 b1 b2 hA hB
            have ea : (⟨g, 0, none⟩ : Addr).add (q * 2) = ⟨g, q * 2, none⟩ := by unfold Addr.add; split <;> simp_all
            go_wp2_with fail
            refine (point_c x y _).mono ?_
            rintro e w4 ⟨rfl, hk4⟩
            go_wp2_with fail
            refine (C _).mono ?_
            rintro e w5 ⟨rfl, hk5⟩
            have K5 := kept_trans (kept_alloc (kept_refl wr) _) (kept_trans hk4 hk5)
            replace d0 := kept_cell K5 d0
            replace d1 := kept_cell K5 d1
            replace hown := hown.kept K5
            replace hk := kept_trans hk K5
            have f0 := World.ownsRow.frozenAt hown (q * 2)
            have f1 := World.ownsRow.frozenAt hown (q * 2 + 1)
            clear hk4 hk5 K5 hcs C
            go_wp2_with fail
            obtain ⟨R, K⟩ := hown.store hk (Nat.le_refl _) hlt (x - lx) (y - ly)
            have e : flat j (fun p => if p = q then x - lx else if p < q then rx (X xs p) (Y xs p) k - lx else rx (X xs p) (Y xs p) k) (fun p => if p = q then y - ly else if p < q then ry (X xs p) (Y xs p) k - ly else ry (X xs p) (Y xs p) k) = flat j (fun p => if p < q + 1 then rx (X xs p) (Y xs p) k - lx else rx (X xs p) (Y xs p) k) (fun p => if p < q + 1 then ry (X xs p) (Y xs p) k - ly else ry (X xs p) (Y xs p) k) := by
              refine flat_congr fun p hp => ?_
              by_cases h : p = q
              · subst h
                rw [if_pos rfl, if_pos rfl, if_pos (by omega), if_pos (by omega), HA.out, HB.out]
                exact ⟨rfl, rfl⟩
              · rw [if_neg h, if_neg h]
                by_cases h' : p < q
                · rw [if_pos h', if_pos h', if_pos (by omega), if_pos (by omega)]; exact ⟨rfl, rfl⟩
                · rw [if_neg h', if_neg h', if_neg (by omega), if_neg (by omega)]; exact ⟨rfl, rfl⟩
            rw [e] at R
            exact ⟨⟨q + 1, by omega, by go_num, R, K⟩, by simp [intOf]; omega⟩
          · obtain rfl : q = j := by omega
            have e : ptsv xs k q = flat q (fun p => if p < q then rx (X xs p) (Y xs p) k - lx else rx (X xs p) (Y xs p) k) (fun p => if p < q then ry (X xs p) (Y xs p) k - ly else ry (X xs p) (Y xs p) k) := by
              unfold ptsv
              rw [HO.out, if_pos rfl, HX.out, HY.out]
              refine flat_congr fun p hp => ?_
              rw [if_pos hp, if_pos hp]
              exact ⟨rfl, rfl⟩
            have E := Lib.hid e
            clear e
            go_wp2_with fail
            go_ret2
            exact ⟨_, rfl, by rw [E.out]; simpa using hown, hk⟩
end Go.Proofs.Ythbbkmkaopgmdaa
/-
  Layer 21 (turn): points turned, and moved.
-/
namespace Go.Proofs.Ythbbkmkaopgmdaa
open Go.RowKit BG
attribute [local go_sem ↓] Go.wp_at_zero Go.wp_at_succ
set_option linter.unusedVariables false

end Go.Proofs.Ythbbkmkaopgmdaa
/-
  beagleref21.Same and beagleref07.Places by their contracts.
-/
namespace Go.Proofs.Ythbbkmkaopgmdaa
open Go.RowKit BG
attribute [local go_sem ↓] Go.wp_at_zero Go.wp_at_succ
set_option linter.unusedVariables false
/-- The two lists are the same. -/
def sameP21 (xs ys : List Int) : Bool := decide (xs = ys)
theorem sameP21_true {xs ys : List Int} (hl : xs.length = ys.length) (h : ∀ j, j < xs.length → nth xs j = nth ys j) : sameP21 xs ys = true := by
  simp only [sameP21, decide_eq_true_eq]; exact nth_ext hl h
theorem sameP21_false {xs ys : List Int} {j : Nat} (h : nth xs j ≠ nth ys j) : sameP21 xs ys = false := by
  simp only [sameP21, decide_eq_false_iff_not]; exact fun e => h (by rw [e])
set_option maxRecDepth 100000 in
theorem samep_c (A B : Option Addr) (ca cb : Nat) (xs ys : List Int) (n m : Nat) (hxl : xs.length = 2 * n) (hyl : ys.length = 2 * m) (w : World) (hx : Rd .i64 w A xs) (hy : Rd .i64 w B ys) :
    Calls Try.prog 17 #[.slice A n ca, .slice B m cb] w (Ret (.bool (sameP21 xs ys)) w) := by
  have hm := hx.1
  by_cases hl : n = m
  · have HL := Lib.hid hl
    have hlb : ((n : Int) == (m : Int)) = true := by simp [hl]
    have hlc : ((n : Int) != (m : Int)) = false := by simp [hl]
    clear hl
    go_enter Try.func17, Try.ntmps17
    go_wp2_with fail
    go_loopw [5] (fun i wr => ∃ j : Nat, j ≤ n ∧ i = .int .i64 j ∧ Kept w wr ∧ Hid (∀ q, q < j → X xs q = X ys q ∧ Y xs q = Y ys q)) (fun i _ => n - (intOf i).toNat)
    case atStart => exact ⟨0, Nat.zero_le _, rfl, kept_refl _, fun q hq => absurd hq (Nat.not_lt_zero q)⟩
    case round =>
      obtain ⟨j, hj, rfl, hk, HQ⟩ := hrel
      by_cases hlt : j < n
      · have hlt2 : j < m := by have := HL.out; omega
        obtain ⟨ad, rfl, c0, c1⟩ := (hx.kept hk).point hxl hlt
        obtain ⟨bd, rfl, d0, d1⟩ := (hy.kept hk).point hyl hlt2
        have q := eq2 (X xs j) (Y xs j) (X ys j) (Y ys j)
        by_cases he : X xs j = X ys j ∧ Y xs j = Y ys j
        · have hb : ([X xs j, Y xs j] == [X ys j, Y ys j]) = true := by simp [he]
          rw [hb] at q
          have HE := Lib.hid he
          clear he hb
          go_wp2_with fail
          go_quiet (fail)
          go_wp2_with fail
          go_roundw
          case rel => exact ⟨j + 1, by omega, by go_num, kept_drewN hk _, fun q hq => by
            rcases Nat.lt_or_ge q j with h | h
            · exact HQ q h
            · obtain rfl : q = j := by omega
              exact HE.out⟩
          case measure => simp [intOf]; omega
        · have hb : ([X xs j, Y xs j] == [X ys j, Y ys j]) = false := by rw [beq_eq_false_iff_ne]; intro h; simp at h; exact he h
          rw [hb] at q
          have hs : sameP21 xs ys = false := by
            simp only [sameP21, decide_eq_false_iff_not]; intro e; exact he (by rw [e]; exact ⟨rfl, rfl⟩)
          have HS := Lib.hid hs
          clear he hs hb
          go_wp2_with fail
          go_quiet (fail)
          go_wp2_with fail
          go_ret
          exact ⟨by rw [HS.out]; rfl, kept_drewN hk _⟩
      · obtain rfl : j = n := by omega
        have hs : sameP21 xs ys = true := by
          refine sameP21_true (by have := HL.out; omega) fun q hq => ?_
          have h := HQ (q / 2) (by omega)
          rcases Nat.mod_two_eq_zero_or_one q with e | e
          · have := h.1; unfold X at this; rwa [show q / 2 * 2 = q by omega] at this
          · have := h.2; unfold Y at this; rwa [show q / 2 * 2 + 1 = q by omega] at this
        have HS := Lib.hid hs
        clear hs
        go_wp2_with fail
        go_ret
        exact ⟨by rw [HS.out]; rfl, hk⟩
  · have hlb : ((n : Int) == (m : Int)) = false := by rw [beq_eq_false_iff_ne]; omega
    have hlc : ((n : Int) != (m : Int)) = true := by rw [bne_iff_ne]; omega
    have hs : sameP21 xs ys = false := by simp only [sameP21, decide_eq_false_iff_not]; intro e; rw [e] at hxl; omega
    rw [hs]
    clear hs hl
    go_enter Try.func17, Try.ntmps17
    go_wp2_with fail
    go_ret
    exact ⟨rfl, kept_refl _⟩
end Go.Proofs.Ythbbkmkaopgmdaa
