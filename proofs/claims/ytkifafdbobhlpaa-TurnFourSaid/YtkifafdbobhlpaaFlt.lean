/-
  Floats that are whole numbers: sums, differences, products and conversions of such are exact.
-/
import Derived.Laws.ComplexArith
import Derived.ProofKit
set_option linter.unusedVariables false
namespace Go.Proofs.Ytkifafdbobhlpaa
open Ieee

def sg (s : Bool) (m : Nat) : Int := if s then -(m : Int) else m
/-- What a number stands for is the whole number n. -/
def Val (s : Bool) (m : Nat) (i : Int) (n : Int) : Prop := ∃ a b : Nat, i = (a : Int) - b ∧ sg s m * 2 ^ a = n * 2 ^ b
theorem pow_pos2 (a : Nat) : (0 : Int) < 2 ^ a := Int.pow_pos (by decide)
theorem Val.at_ {s : Bool} {m : Nat} {i n : Int} (h : Val s m i n) {a b : Nat} (hi : i = (a : Int) - b) : sg s m * 2 ^ a = n * 2 ^ b := by
  obtain ⟨c, d, h1, h2⟩ := h
  have e : a + d = c + b := by omega
  have h3 : (sg s m * 2 ^ a) * 2 ^ d = (n * 2 ^ b) * 2 ^ d := by
    rw [Int.mul_assoc, ← Int.pow_add, e, Int.pow_add, ← Int.mul_assoc, h2, Int.mul_assoc, Int.mul_assoc, Int.mul_comm (2 ^ d)]
  exact Int.eq_of_mul_eq_mul_right (Int.ne_of_gt (pow_pos2 d)) h3
theorem sg_mul (s t : Bool) (m n : Nat) : sg (s ^^ t) (m * n) = sg s m * sg t n := by
  cases s <;> cases t <;> simp [sg, Int.mul_neg, Int.neg_mul]
theorem sg_natAbs (s : Bool) (m : Nat) : (sg s m).natAbs = m := by cases s <;> simp [sg]
theorem Val.mul {s t : Bool} {m n : Nat} {i j x y : Int} (h : Val s m i x) (h' : Val t n j y) : Val (s ^^ t) (m * n) (i + j) (x * y) := by
  obtain ⟨a, b, h1, h2⟩ := h
  obtain ⟨c, d, h3, h4⟩ := h'
  refine ⟨a + c, b + d, by omega, ?_⟩
  rw [sg_mul, Int.pow_add, Int.pow_add]
  have : sg s m * sg t n * (2 ^ a * 2 ^ c) = (sg s m * 2 ^ a) * (sg t n * 2 ^ c) := by
    simp only [Int.mul_assoc, Int.mul_left_comm, Int.mul_comm]
  rw [this, h2, h4]
  simp only [Int.mul_assoc, Int.mul_left_comm]
theorem Val.neg {s : Bool} {m : Nat} {i x : Int} (h : Val s m i x) : Val (!s) m i (-x) := by
  obtain ⟨a, b, h1, h2⟩ := h
  refine ⟨a, b, h1, ?_⟩
  rw [Int.neg_mul, ← h2]
  cases s <;> simp [sg, Int.neg_mul]
theorem signed_eq (s : Bool) (m k : Nat) : signed s m k = sg s m * 2 ^ k := by
  cases s <;> simp [signed, sg, Nat.shiftLeft_eq, Int.neg_mul]
theorem Val.add {s t : Bool} {m n : Nat} {i j x y : Int} (h : Val s m i x) (h' : Val t n j y) (q : Bool) (hq : q = if signed s m (i - min i j).toNat + signed t n (j - min i j).toNat = 0 then s && t else decide (signed s m (i - min i j).toNat + signed t n (j - min i j).toNat < 0)) :
    Val q (signed s m (i - min i j).toNat + signed t n (j - min i j).toNat).natAbs (min i j) (x + y) := by
  have hsg : sg q (signed s m (i - min i j).toNat + signed t n (j - min i j).toNat).natAbs = signed s m (i - min i j).toNat + signed t n (j - min i j).toNat := by
    generalize signed s m (i - min i j).toNat + signed t n (j - min i j).toNat = z at *
    subst hq
    unfold sg
    split
    · rename_i h0
      cases s <;> cases t <;> simp <;> omega
    · rename_i h0
      by_cases h1 : z < 0 <;> simp [h1] <;> omega
  obtain ⟨a, b, h1, h2⟩ := h
  obtain ⟨c, d, h3, h4⟩ := h'
  refine ⟨(min i j + b + d).toNat, b + d, by omega, ?_⟩
  rw [hsg, signed_eq, signed_eq, Int.add_mul, Int.mul_assoc, Int.mul_assoc, ← Int.pow_add, ← Int.pow_add, show (i - min i j).toNat + (min i j + b + d).toNat = a + d by omega, show (j - min i j).toNat + (min i j + b + d).toNat = c + b by omega, Int.pow_add, Int.pow_add, ← Int.mul_assoc, ← Int.mul_assoc, h2, h4, Int.add_mul, Int.pow_add]
  simp only [Int.mul_assoc, Int.mul_left_comm, Int.mul_comm]

theorem cut_exact (w : Toward) (neg : Bool) (q drop : Nat) : w.cut neg (q * 2 ^ drop) drop = q := by
  have key : q * 2 ^ drop / (1 <<< min drop ((q * 2 ^ drop).log2 + 2)) = q ∧ q * 2 ^ drop % (1 <<< min drop ((q * 2 ^ drop).log2 + 2)) = 0 ∧ 0 < 1 <<< min drop ((q * 2 ^ drop).log2 + 2) := by
    rcases Nat.eq_zero_or_pos q with rfl | hq
    · simp [Nat.shiftLeft_eq, Nat.pow_pos]
    · have h1 : drop ≤ (q * 2 ^ drop).log2 := (Nat.le_log2 (by have := Nat.mul_pos hq (Nat.pow_pos (n := drop) (show 0 < 2 by decide)); omega)).2 (Nat.le_mul_of_pos_left _ hq)
      rw [Nat.min_eq_left (by omega), Nat.shiftLeft_eq, Nat.one_mul]
      exact ⟨Nat.mul_div_cancel _ (Nat.pow_pos (by decide)), Nat.mul_mod_left _ _, Nat.pow_pos (by decide)⟩
  obtain ⟨h1, h2, h3⟩ := key
  unfold Toward.cut
  simp only [h1, h2]
  cases w <;> simp

theorem dbl : double.signWeight = 9223372036854775808 ∧ double.binade = 4503599627370496 ∧ double.infRung = 9218868437227405312 ∧ double.leastPlace = -1074 ∧ double.fractionBits = 52 := by decide
theorem read_zero (s : Bool) : double.read (double.word s 0) = .number s 0 (-1074) := by
  cases s <;> decide
theorem read_word (s : Bool) (e kept : Nat) (h1 : 4503599627370496 ≤ kept) (h2 : kept < 9007199254740992) (he : e ≤ 2000) : double.read (double.word s (e * 4503599627370496 + kept)) = .number s kept (-1074 + (e : Int)) := by
  obtain ⟨d1, d2, d3, d4, d5⟩ := dbl
  unfold Format.read Format.word
  rw [d1, d2, d3, d4]
  have hr : (if s = true then 9223372036854775808 + (e * 4503599627370496 + kept) else e * 4503599627370496 + kept) % 9223372036854775808 = e * 4503599627370496 + kept := by split <;> omega
  have hn : ((if s = true then 9223372036854775808 + (e * 4503599627370496 + kept) else e * 4503599627370496 + kept) / 9223372036854775808 % 2 == 1) = s := by
    cases s <;> simp <;> omega
  simp only [hr, hn]
  rw [if_neg (by omega), if_pos (by omega)]
  congr 1 <;> omega

theorem sg_self {s : Bool} {m a b : Nat} {n : Int} (hv : sg s m * 2 ^ a = n * 2 ^ b) : n = sg s n.natAbs := by
  have hp := pow_pos2 a
  have hq := pow_pos2 b
  generalize (2 : Int) ^ a = x at *
  generalize (2 : Int) ^ b = y at *
  cases s
  · have : 0 ≤ n * y := by rw [← hv]; exact Int.mul_nonneg (Int.natCast_nonneg m) (Int.le_of_lt hp)
    have : 0 ≤ n := Int.nonneg_of_mul_nonneg_left this hq
    show n = (n.natAbs : Int)
    omega
  · have : 0 ≤ -n * y := by
      rw [Int.neg_mul, ← hv]; show 0 ≤ -(-(m : Int) * x)
      rw [Int.neg_mul, Int.neg_neg]
      exact Int.mul_nonneg (Int.natCast_nonneg m) (Int.le_of_lt hp)
    have : 0 ≤ -n := Int.nonneg_of_mul_nonneg_left this hq
    show n = -(n.natAbs : Int)
    omega
/-- The word of a number that is whole and below 2^53 is that number. -/
theorem nearest_exact (s : Bool) (m : Nat) (i n : Int) (h : Val s m i n) (h1 : n.natAbs < 2 ^ 53) : ∃ m' i', double.read (double.nearest s m i) = .number s m' i' ∧ Val s m' i' n := by
  obtain ⟨d1, d2, d3, d4, d5⟩ := dbl
  unfold Format.nearest
  obtain ⟨a, b, hi, hv⟩ := h
  split
  · rename_i h0
    subst h0
    have hn : n = 0 := by
      have : n * 2 ^ b = 0 := by rw [← hv]; cases s <;> simp [sg]
      rcases Int.mul_eq_zero.1 this with h | h
      · exact h
      · exact absurd h (Int.ne_of_gt (pow_pos2 b))
    exact ⟨0, -1074, read_zero s, 0, 1074, by omega, by rw [hn, Int.zero_mul]; cases s <;> simp [sg]⟩
  · rename_i h0
    have hN : m * 2 ^ a = n.natAbs * 2 ^ b := by
      have := congrArg Int.natAbs hv
      rwa [Int.natAbs_mul, Int.natAbs_mul, sg_natAbs, Int.natAbs_pow, Int.natAbs_pow] at this
    have hl1 : 2 ^ m.log2 ≤ m := Nat.log2_self_le h0
    have hl2 : m < 2 ^ (m.log2 + 1) := Nat.lt_log2_self
    have hn0 : 0 < n.natAbs := Nat.pos_of_ne_zero fun h => by
      rw [h, Nat.zero_mul] at hN
      have := Nat.mul_pos (Nat.pos_of_ne_zero h0) (Nat.pow_pos (n := a) (show 0 < 2 by decide))
      omega
    generalize hL : m.log2 = L at *
    have p1 : b ≤ L + a := by
      refine Nat.le_of_lt_succ (Nat.lt_of_not_le fun hc => ?_)
      have q1 : m * 2 ^ a < 2 ^ (L + 1) * 2 ^ a := Nat.mul_lt_mul_of_pos_right hl2 (Nat.pow_pos (by decide))
      have q2 : 2 ^ b ≤ n.natAbs * 2 ^ b := Nat.le_mul_of_pos_left _ hn0
      rw [← Nat.pow_add] at q1
      have q3 : 2 ^ (L + 1 + a) ≤ 2 ^ b := Nat.pow_le_pow_right (by decide) (by omega)
      omega
    have p2 : L + a ≤ 52 + b := by
      refine Nat.le_of_lt_succ (Nat.lt_of_not_le fun hc => ?_)
      have q1 : 2 ^ L * 2 ^ a ≤ m * 2 ^ a := Nat.mul_le_mul_right _ hl1
      have q2 : n.natAbs * 2 ^ b < 2 ^ 53 * 2 ^ b := Nat.mul_lt_mul_of_pos_right h1 (Nat.pow_pos (by decide))
      rw [← Nat.pow_add] at q1 q2
      have q3 : 2 ^ (53 + b) ≤ 2 ^ (L + a) := Nat.pow_le_pow_right (by decide) (by omega)
      omega
    obtain ⟨kept, hk1, hk2⟩ : ∃ kept, m <<< (52 - L) = kept * 2 ^ (L - 52) ∧ kept * 2 ^ L = m * 2 ^ 52 := by
      rw [Nat.shiftLeft_eq]
      rcases Nat.le_total L 52 with hc | hc
      · refine ⟨m * 2 ^ (52 - L), by rw [show L - 52 = 0 by omega, Nat.pow_zero, Nat.mul_one], ?_⟩
        rw [Nat.mul_assoc, ← Nat.pow_add, show 52 - L + L = 52 by omega]
      · have hm : m = n.natAbs * 2 ^ (b - a - (L - 52)) * 2 ^ (L - 52) := by
          have : m * 2 ^ a = n.natAbs * 2 ^ (b - a - (L - 52)) * 2 ^ (L - 52) * 2 ^ a := by
            rw [hN, Nat.mul_assoc, Nat.mul_assoc, ← Nat.pow_add, ← Nat.pow_add, show b - a - (L - 52) + (L - 52 + a) = b by omega]
          exact Nat.eq_of_mul_eq_mul_right (Nat.pow_pos (by decide)) this
        refine ⟨n.natAbs * 2 ^ (b - a - (L - 52)), by rw [show 52 - L = 0 by omega, Nat.pow_zero, Nat.mul_one]; exact hm, ?_⟩
        conv => rhs; rw [hm]
        rw [Nat.mul_assoc _ (2 ^ (L - 52)), ← Nat.pow_add, show L - 52 + 52 = L by omega]
    have hkl : 2 ^ 52 ≤ kept := by
      refine Nat.le_of_mul_le_mul_right (c := 2 ^ L) ?_ (Nat.pow_pos (by decide))
      rw [hk2, Nat.mul_comm (2 ^ 52)]
      exact Nat.mul_le_mul_right _ hl1
    have hku : kept < 2 ^ 53 := by
      refine Nat.lt_of_mul_lt_mul_right (a := 2 ^ L) ?_
      rw [hk2, ← Nat.pow_add, show 53 + L = L + 1 + 52 by omega, Nat.pow_add 2 (L + 1)]
      exact Nat.mul_lt_mul_of_pos_right hl2 (Nat.pow_pos (by decide))
    rw [d5, d4]
    have hlast : max (i + (L : Int) - (52 : Nat)) (-1074) = i + L - 52 := by omega
    simp only [hlast]
    rw [show (i - (i + (L : Int) - 52)).toNat = 52 - L by omega, show (i + (L : Int) - 52 - i).toNat = L - 52 by omega, hk1, cut_exact]
    rw [d2, d3, show (i + (L : Int) - 52 - -1074) = ((i + L + 1022).toNat : Int) by omega]
    have hmin : min ((i + (L : Int) + 1022).toNat * 4503599627370496 + kept) 9218868437227405312 = (i + (L : Int) + 1022).toNat * 4503599627370496 + kept := Nat.min_eq_left (by omega)
    rw [Int.toNat_natCast, hmin]
    refine ⟨kept, _, read_word s _ kept (by omega) (by omega) (by omega), a + L, b + 52, by omega, ?_⟩
    have hN2 : kept * 2 ^ (a + L) = n.natAbs * 2 ^ (b + 52) := by
      rw [Nat.add_comm a L, Nat.pow_add, ← Nat.mul_assoc, hk2, Nat.mul_assoc, Nat.mul_comm (2 ^ 52), ← Nat.mul_assoc, hN, Nat.mul_assoc, ← Nat.pow_add]
    have hs : n = sg s n.natAbs := sg_self hv
    clear hv hmin hlast h1 hkl hku hk1 hk2 hN hl1 hl2 p1 p2
    have hN3 : (kept : Int) * 2 ^ (a + L) = (n.natAbs : Int) * 2 ^ (b + 52) := by
      have := congrArg (fun (x : Nat) => (x : Int)) hN2
      simp only [Int.natCast_mul, Int.natCast_pow, Int.cast_ofNat_Int] at this
      exact this
    generalize (2 : Int) ^ (a + L) = x at *
    generalize (2 : Int) ^ (b + 52) = y at *
    refine Eq.trans ?_ (congrArg (· * y) hs.symm)
    cases s
    · exact hN3
    · show -(kept : Int) * x = -(n.natAbs : Int) * y
      rw [Int.neg_mul, Int.neg_mul, hN3]

/-- The bits stand for the whole number n. -/
def Rep (w : Nat) (n : Int) : Prop := ∃ s m i, double.read w = .number s m i ∧ Val s m i n
theorem rep_write {s : Bool} {m : Nat} {i n : Int} (h : Val s m i n) (h1 : n.natAbs < 9007199254740992) : Rep (double.write (.number s m i)) n := by
  obtain ⟨m', i', h2, h3⟩ := nearest_exact s m i n h h1
  exact ⟨s, m', i', h2, h3⟩
theorem rep_int (n : Int) (h : n.natAbs < 9007199254740992) : Rep (floatOfInt .f64 n) n := by
  refine rep_write (s := decide (n < 0)) (m := n.natAbs) (i := 0) ⟨0, 0, rfl, ?_⟩ h
  rw [Int.pow_zero, Int.mul_one, Int.mul_one]
  unfold sg
  by_cases h : n < 0 <;> simp [h] <;> omega
theorem rep_mul {x y : Nat} {a b : Int} (ha : Rep x a) (hb : Rep y b) (h : (a * b).natAbs < 9007199254740992) : ∃ z, floatBits .mul .f64 x y = some z ∧ Rep z (a * b) := by
  obtain ⟨s, m, i, h1, h2⟩ := ha
  obtain ⟨t, n, j, h3, h4⟩ := hb
  refine ⟨double.write (.number (s ^^ t) (m * n) (i + j)), ?_, rep_write (h2.mul h4) h⟩
  show ((double.read x).product (double.read y)).map double.write = _
  rw [h1, h3]
  rfl
theorem rep_sum {d e : Datum} {s t : Bool} {m n : Nat} {i j a b : Int} (h1 : d = .number s m i) (h2 : e = .number t n j) (h3 : Val s m i a) (h4 : Val t n j b) (h : (a + b).natAbs < 9007199254740992) : ∃ z, (d.sum e).map double.write = some z ∧ Rep z (a + b) := by
  subst h1 h2
  exact ⟨_, rfl, rep_write (Val.add h3 h4 _ rfl) h⟩
theorem rep_add {x y : Nat} {a b : Int} (ha : Rep x a) (hb : Rep y b) (h : (a + b).natAbs < 9007199254740992) : ∃ z, floatBits .add .f64 x y = some z ∧ Rep z (a + b) := by
  obtain ⟨s, m, i, h1, h2⟩ := ha
  obtain ⟨t, n, j, h3, h4⟩ := hb
  exact rep_sum h1 h3 h2 h4 h
theorem rep_sub {x y : Nat} {a b : Int} (ha : Rep x a) (hb : Rep y b) (h : (a - b).natAbs < 9007199254740992) : ∃ z, floatBits .sub .f64 x y = some z ∧ Rep z (a - b) := by
  obtain ⟨s, m, i, h1, h2⟩ := ha
  obtain ⟨t, n, j, h3, h4⟩ := hb
  exact rep_sum h1 (congrArg Datum.opposite h3) h2 h4.neg h
theorem rep_toInt {x : Nat} {a : Int} (ha : Rep x a) (h : -9223372036854775808 ≤ a ∧ a ≤ 9223372036854775807) : floatToIntVal .f64 x .i64 = some a := by
  obtain ⟨s, m, i, h1, h2⟩ := ha
  have key : ((FloatKind.decode .f64 x).toInt .zero) = some a := by
    show (double.read x).toInt .zero = some a
    rw [h1]
    unfold Datum.toInt Datum.integral
    have hv : ∃ q : Nat, m <<< i.toNat = q * 2 ^ (-i).toNat ∧ sg s q = a := by
      have hq : sg s a.natAbs = a := by obtain ⟨c, d, _, e⟩ := h2; exact (sg_self e).symm
      refine ⟨a.natAbs, ?_, hq⟩
      rw [Nat.shiftLeft_eq]
      have e := h2.at_ (a := i.toNat) (b := (-i).toNat) (by omega)
      have := congrArg Int.natAbs e
      rwa [Int.natAbs_mul, Int.natAbs_mul, sg_natAbs, Int.natAbs_pow, Int.natAbs_pow] at this
    obtain ⟨q, hq, hs⟩ := hv
    simp only [hq, cut_exact]
    rw [signed_eq, Int.pow_zero, Int.mul_one, hs]
  unfold floatToIntVal
  rw [key]
  exact if_pos h
theorem rep_cmul {a b c d : Nat} {x y u v : Int} (ha : Rep a x) (hb : Rep b y) (hc : Rep c u) (hd : Rep d v) (h1 : (x * u).natAbs < 4503599627370496) (h2 : (y * v).natAbs < 4503599627370496) (h3 : (x * v).natAbs < 4503599627370496) (h4 : (y * u).natAbs < 4503599627370496) :
    ∃ re im, cMulBits a b c d = some (re, im) ∧ Rep re (x * u - y * v) ∧ Rep im (x * v + y * u) := by
  obtain ⟨z1, e1, r1⟩ := rep_mul ha hc (by omega)
  obtain ⟨z2, e2, r2⟩ := rep_mul hb hd (by omega)
  obtain ⟨z3, e3, r3⟩ := rep_mul ha hd (by omega)
  obtain ⟨z4, e4, r4⟩ := rep_mul hb hc (by omega)
  obtain ⟨z5, e5, r5⟩ := rep_sub r1 r2 (by omega)
  obtain ⟨z6, e6, r6⟩ := rep_add r3 r4 (by omega)
  exact ⟨z5, z6, by simp [cMulBits, e1, e2, e3, e4, e5, e6], r5, r6⟩
theorem rep_csub {a b c d : Nat} {x y u v : Int} (ha : Rep a x) (hb : Rep b y) (hc : Rep c u) (hd : Rep d v) (h1 : (x - u).natAbs < 9007199254740992) (h2 : (y - v).natAbs < 9007199254740992) :
    ∃ re im, cSumBits .sub .f64 a b c d = some (re, im) ∧ Rep re (x - u) ∧ Rep im (y - v) := by
  obtain ⟨z1, e1, r1⟩ := rep_sub ha hc h1
  obtain ⟨z2, e2, r2⟩ := rep_sub hb hd h2
  exact ⟨z1, z2, by simp [cSumBits, e1, e2], r1, r2⟩
end Go.Proofs.Ytkifafdbobhlpaa
