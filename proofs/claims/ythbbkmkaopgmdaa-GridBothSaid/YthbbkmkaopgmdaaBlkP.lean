/-
  Sums in blocks: without Go.
-/
import Derived.Test.YthbbkmkaopgmdaaWBlk4
namespace Go.Proofs.Ythbbkmkaopgmdaa
open Go.RowKit BG
set_option linter.unusedVariables false

theorem sumTo_from {n m t : Nat} {f : Nat → Int} (h : t + m ≤ n) (h0 : ∀ i, i < n → ¬ (t ≤ i ∧ i < t + m) → f i = 0) : sumTo n f = sumTo m fun j => f (t + j) := by
  obtain ⟨d, rfl⟩ : ∃ d, n = t + m + d := ⟨n - (t + m), by omega⟩
  rw [sumTo_append, sumTo_append, sumTo_zero (n := t) fun i hi => h0 i (by omega) (by omega), sumTo_zero (n := d) fun i hi => h0 (t + m + i) (by omega) (by omega)]
  omega
theorem turn_inv {S i t : Nat} (hi : i < S) (ht : t < S) : (i + (t + S - i) % S) % S = t ∧ (t + S - i) % S < S ∧ (S - (t + S - i) % S) % S = (if t ≤ i then i - t else i + S - t) ∧ ∀ j, j < S → (i + j) % S = t → j = (t + S - i) % S := by
  have hS : 0 < S := by omega
  have e1 : (t + S - i) % S = if t < i then t + S - i else t - i := by
    split
    · exact Nat.mod_eq_of_lt (by omega)
    · rw [show t + S - i = (t - i) + S by omega, Nat.add_mod_right, Nat.mod_eq_of_lt (by omega)]
  refine ⟨?_, Nat.mod_lt _ hS, ?_, ?_⟩
  · rw [e1]
    split
    · rw [show i + (t + S - i) = t + S by omega, Nat.add_mod_right, Nat.mod_eq_of_lt ht]
    · rw [show i + (t - i) = t by omega, Nat.mod_eq_of_lt ht]
  · rw [e1]
    by_cases h : t < i
    · rw [if_pos h, if_pos (by omega), show S - (t + S - i) = i - t by omega, Nat.mod_eq_of_lt (by omega)]
    · rw [if_neg h]
      by_cases h2 : t = i
      · subst h2
        rw [if_pos (Nat.le_refl _), Nat.sub_self, Nat.sub_zero, Nat.mod_self]
      · rw [if_neg (by omega), Nat.mod_eq_of_lt (by omega)]
        omega
  · intro j hj he
    rw [e1]
    by_cases h : i + j < S
    · rw [Nat.mod_eq_of_lt h] at he
      rw [if_neg (by omega)]
      omega
    · rw [show i + j = (i + j - S) + S by omega, Nat.add_mod_right, Nat.mod_eq_of_lt (by omega)] at he
      rw [if_pos (by omega)]
      omega
/-- A row, the other way round, along what goes round, where it goes not round. -/
theorem cyc_turn {S t : Nat} (a : Nat → Int) (ps : List Int) (hm0 : 0 < ps.length) (ht : t + ps.length ≤ S) : cyc S a (nth (turnedv ps S)) t = sumTo ps.length fun j => nth ps j * a (t + j) := by
  have htS : t < S := by omega
  unfold cyc
  have h1 : ∀ i, i < S → (sumTo S fun j => if (i + j) % S = t then a i * nth (turnedv ps S) j else 0) = if t ≤ i ∧ i < t + ps.length then a i * nth ps (i - t) else 0 := by
    intro i hi
    obtain ⟨e1, e2, e3, e4⟩ := turn_inv hi htS
    rw [sumTo_one ((t + S - i) % S) e2 _ fun j hj hne => if_neg fun he => hne (e4 j hj he), if_pos e1]
    unfold turnedv
    rw [nth_mk e2]
    unfold turnTo
    rw [e3]
    by_cases h : t ≤ i
    · rw [if_pos h]
      by_cases h2 : i < t + ps.length
      · rw [if_pos (show i - t < ps.length by omega), if_pos ⟨h, h2⟩]
      · rw [if_neg (show ¬ i - t < ps.length by omega), if_neg (by omega), Int.mul_zero]
    · rw [if_neg h, if_neg (show ¬ i + S - t < ps.length by omega), if_neg (by omega), Int.mul_zero]
  rw [sumTo_congr h1, sumTo_from ht fun i _ h => if_neg h]
  refine sumTo_congr fun j hj => ?_
  rw [if_pos (by omega), Nat.add_sub_cancel_left, Int.mul_comm]
/-- A part of a row. -/
def partv (ts : List Int) (at_ L : Nat) : List Int := mk L fun i => nth ts (at_ + i)
theorem blk_sums {S i at_ L : Nat} (ps ts : List Int) (hm0 : 0 < ps.length) (hi : i + ps.length ≤ S) (hL : i + ps.length ≤ L) (hLS : L ≤ S) : cyc S (nth (widev (partv ts at_ L) S)) (nth (turnedv ps S)) i = sl (nth ps) (nth ts) ps.length (at_ + i) := by
  rw [cyc_turn _ ps hm0 hi]
  unfold sl
  refine sumTo_congr fun j hj => ?_
  unfold widev partv
  rw [mk_length, nth_mk (show i + j < S by omega), if_pos (show i + j < L by omega), nth_mk (show i + j < L by omega), Nat.add_assoc]
theorem mk_append (a b : Nat) (f : Nat → Int) : mk a f ++ mk b (fun i => f (a + i)) = mk (a + b) f := by
  induction b with
  | zero => simp [mk]
  | succ b ih => rw [mk_succ, ← List.append_assoc, ih, ← Nat.add_assoc, mk_succ]
/-- How many sums the block q tells. -/
def manyv (sums each q : Nat) : Nat := min each (sums - q * each)
theorem flat_range {sums each : Nat} (f : Nat → Int) : ∀ k, (∀ q, q < k → q * each < sums) → ((List.range k).flatMap fun q => mk (manyv sums each q) fun i => f (q * each + i)) = mk (min sums (k * each)) f := by
  intro k
  induction k with
  | zero => intro _; simp [mk]
  | succ k ih =>
    intro h
    rw [List.range_succ, List.flatMap_append, ih fun q hq => h q (by omega)]
    have h1 := h k (Nat.lt_succ_self k)
    have h2 : (k + 1) * each = k * each + each := Nat.succ_mul k each
    rw [show min sums (k * each) = k * each by omega, show min sums ((k + 1) * each) = k * each + manyv sums each k by unfold manyv; omega, ← mk_append]
    simp
theorem blocks_all {sums each : Nat} (hs : 0 < sums) (he : 0 < each) : (∀ q, q < (sums - 1) / each + 1 → q * each < sums) ∧ sums ≤ ((sums - 1) / each + 1) * each := by
  have h1 := Nat.div_add_mod (sums - 1) each
  have h2 := Nat.mod_lt (sums - 1) he
  have h3 : ((sums - 1) / each + 1) * each = each * ((sums - 1) / each) + each := by rw [Nat.succ_mul, Nat.mul_comm]
  refine ⟨fun q hq => ?_, by omega⟩
  have h4 : q * each ≤ (sums - 1) / each * each := Nat.mul_le_mul_right _ (by omega)
  rw [Nat.mul_comm ((sums - 1) / each)] at h4
  omega
end Go.Proofs.Ythbbkmkaopgmdaa
