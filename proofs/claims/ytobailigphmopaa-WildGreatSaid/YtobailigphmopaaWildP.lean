/-
  Layer 10 (wild): what the sums are: without Go.
-/
import Derived.Test.YtobailigphmopaaWWildJ
import Derived.Test.YtobailigphmopaaWBlk6
namespace Go.Proofs.Ytobailigphmopaa
open Go.RowKit BG
set_option linter.unusedVariables false

def pV (xs : List Int) (n : Nat) : List Int := mk n fun j => (valv (cls xs j) : Int)
def tV (s : ByteArray) : List Int := mk s.size fun j => nth (bytesL s) j + 1
def sqL (n : Nat) (ys : List Int) : List Int := mk n fun j => nth ys j * nth ys j
theorem pV_len (xs : List Int) (n : Nat) : (pV xs n).length = n := mk_length _ _
theorem tV_len (s : ByteArray) : (tV s).length = s.size := mk_length _ _
theorem sqL_len (n : Nat) (ys : List Int) : (sqL n ys).length = n := mk_length _ _
theorem nth_out {xs : List Int} {j : Nat} (h : xs.length ≤ j) : nth xs j = 0 := by unfold nth; rw [List.getD_eq_getElem?_getD, List.getElem?_eq_none h]; rfl
theorem pV_bd (xs : List Int) (n j : Nat) : 0 ≤ nth (pV xs n) j ∧ nth (pV xs n) j ≤ 256 := by
  by_cases h : j < n
  · unfold pV; rw [nth_mk h]; have := valv_le (cls xs j); omega
  · rw [nth_out (by rw [pV_len]; omega)]; decide
theorem tV_bd (s : ByteArray) (j : Nat) : 0 ≤ nth (tV s) j ∧ nth (tV s) j ≤ 256 := by
  by_cases h : j < s.size
  · unfold tV; rw [nth_mk h]; have := bytesL_bd s j; omega
  · rw [nth_out (by rw [tV_len]; omega)]; decide
theorem sq_bd {a : Int} (h0 : 0 ≤ a) (h : a ≤ 256) : 0 ≤ a * a ∧ a * a ≤ 65536 := by
  refine ⟨Int.mul_nonneg h0 h0, ?_⟩
  exact Int.le_trans (Int.mul_le_mul h h h0 (by decide)) (by decide)
theorem sqL_bd {n : Nat} {ys : List Int} (hy : ∀ j, 0 ≤ nth ys j ∧ nth ys j ≤ 256) (j : Nat) : 0 ≤ nth (sqL n ys) j ∧ nth (sqL n ys) j ≤ 65536 := by
  by_cases h : j < n
  · unfold sqL; rw [nth_mk h]; exact sq_bd (hy j).1 (hy j).2
  · rw [nth_out (by rw [sqL_len]; omega)]; decide
theorem u64_of_bd {ys : List Int} {c : Int} (hc : c ≤ 18446744073709551615) (h : ∀ j, 0 ≤ nth ys j ∧ nth ys j ≤ c) : U64 ys := fun j => ⟨(h j).1, Int.le_trans (h j).2 hc⟩
theorem greatest_of {ys : List Int} {c : Int} (hc : 0 ≤ c) (h : ∀ j, 0 ≤ nth ys j ∧ nth ys j ≤ c) : 0 ≤ greatest ys ∧ greatest ys ≤ c := ⟨grT_nonneg _ _, grT_le hc (fun j => (h j).2) _⟩
/-- What is amiss with a size. -/
def errW (n m : Nat) (size : Int) : Int := if slb n m = true then (if szb n size = true then 0 else 50) else 0
theorem ovr_no2 {x y : Int} (hx : 0 ≤ x) (h : x * y ≤ 18446744073709551615) : ovr x y = false := by
  unfold ovr
  rw [decide_eq_false_iff_not]
  rintro ⟨h0, h1⟩
  have hp : 0 < x := by omega
  have := (Int.ediv_lt_iff_lt_mul hp).1 h1
  rw [Int.mul_comm] at this
  omega
theorem berr_small {ps ts : List Int} {size : Int} {c d : Int} (hc : 0 ≤ c) (hd : 0 ≤ d) (hcd : c * d * 64 ≤ 18446744073709551615) (hp : ∀ j, 0 ≤ nth ps j ∧ nth ps j ≤ c) (ht : ∀ j, 0 ≤ nth ts j ∧ nth ts j ≤ d) (hn : ps.length ≤ 64) : berrv ps ts size = errW ps.length ts.length size := by
  have g1 := greatest_of hc hp
  have g2 := greatest_of hd ht
  unfold berrv berr errW
  have h1 : greatest ps * greatest ts ≤ c * d := Int.mul_le_mul g1.2 g2.2 g2.1 hc
  have h0 := Int.mul_nonneg g1.1 g2.1
  have h2 : greatest ps * greatest ts * (ps.length : Int) ≤ c * d * 64 := Int.mul_le_mul h1 (by omega) (by omega) (Int.mul_nonneg hc hd)
  have h3 := Int.mul_nonneg hc hd
  rw [ovr_no2 g1.1 (by omega), ovr_no2 h0 (by omega)]
  simp
theorem bval_of {ps ts : List Int} {size : Int} (h : berrv ps ts size = 0) : bval ps ts size = if slb ps.length ts.length = true then slidev (nth ps) (nth ts) ps.length ts.length else [] := by
  by_cases hs : slb ps.length ts.length = true
  · rw [if_pos hs]; exact (bval_good ⟨h, hs⟩).1
  · rw [if_neg hs]; exact (bval_bad fun h => hs h.2).1
theorem bcnt_of {ps ts : List Int} {size : Int} (h : berrv ps ts size = 0) (hn : ts.length ≤ 1099511627776) : bcnt ps ts size = countv ps.length ts.length size := by
  by_cases hs : slb ps.length ts.length = true
  · exact (bval_good ⟨h, hs⟩).2
  · rw [(bval_bad fun h => hs h.2).2]
    unfold countv
    rw [if_neg]
    rintro ⟨h1, _⟩
    rw [show min ((ts.length : Nat) : Int) 1099511627776 = (ts.length : Int) by omega] at h1
    exact hs h1
/-- One element's part of a sum. -/
def termW (xs : List Int) (s : ByteArray) (i j : Nat) : Int := (valv (cls xs j) : Int) * ((valv (cls xs j) : Int) - ((byteAt s (i + j) : Int) + 1)) * ((valv (cls xs j) : Int) - ((byteAt s (i + j) : Int) + 1))
def sumW (xs : List Int) (n : Nat) (s : ByteArray) (i : Nat) : Int := sumTo n (termW xs s i)
theorem term_id (p b : Int) : p * p * p - 2 * (p * p * b) + p * (b * b) = p * (p - b) * (p - b) := by
  have e : p * (p - b) * (p - b) = p * p * p - p * p * b - (p * p * b - p * (b * b)) := by
    simp only [Int.mul_sub, Int.mul_comm, Int.mul_left_comm]
  rw [e]
  omega
theorem nn_sq (p d : Int) (h : 0 ≤ p) : 0 ≤ p * d * d := by
  rw [Int.mul_assoc]
  exact Int.mul_nonneg h (by
    rcases Int.le_total 0 d with h | h
    · exact Int.mul_nonneg h h
    · have := Int.mul_nonneg (show 0 ≤ -d by omega) (show 0 ≤ -d by omega)
      rwa [Int.neg_mul_neg] at this)
theorem sum_id (xs : List Int) (s : ByteArray) (i : Nat) : ∀ n, i + n ≤ s.size → ∀ N, n ≤ N → wtT xs n - 2 * sumTo n (fun j => nth (sqL N (pV xs N)) j * nth (tV s) (i + j)) + sumTo n (fun j => nth (pV xs N) j * nth (sqL s.size (tV s)) (i + j)) = sumTo n (termW xs s i) := by
  intro n
  induction n with
  | zero => intro _ _ _; rfl
  | succ n ih =>
    intro h N hN
    have := ih (by omega) N (by omega)
    have e1 : nth (sqL N (pV xs N)) n = (valv (cls xs n) : Int) * (valv (cls xs n) : Int) := by unfold sqL pV; rw [nth_mk (by omega), nth_mk (by omega)]
    have e2 : nth (tV s) (i + n) = (byteAt s (i + n) : Int) + 1 := by unfold tV; rw [nth_mk (by omega), bytesL_at (by omega)]
    have e3 : nth (pV xs N) n = (valv (cls xs n) : Int) := by unfold pV; rw [nth_mk (by omega)]
    have e4 : nth (sqL s.size (tV s)) (i + n) = ((byteAt s (i + n) : Int) + 1) * ((byteAt s (i + n) : Int) + 1) := by unfold sqL; rw [nth_mk (by omega), e2]
    have e5 := term_id (valv (cls xs n) : Int) ((byteAt s (i + n) : Int) + 1)
    show wtT xs n + cube (valv (cls xs n)) - 2 * (sumTo n _ + nth (sqL N (pV xs N)) n * nth (tV s) (i + n)) + (sumTo n _ + nth (pV xs N) n * nth (sqL s.size (tV s)) (i + n)) = sumTo n _ + termW xs s i n
    rw [e1, e2, e3, e4, ← this]
    unfold cube termW
    rw [show ((byteAt s (i + n) : Nat) : Int) + 1 = ((byteAt s (i + n) : Nat) : Int) + 1 from rfl]
    generalize ((byteAt s (i + n) : Nat) : Int) + 1 = b at *
    generalize ((valv (cls xs n) : Nat) : Int) = p at *
    rw [← e5]
    generalize p * p * p = u1
    generalize p * p * b = u2
    generalize p * (b * b) = u3
    omega
theorem sumW_bd (xs : List Int) (s : ByteArray) (i : Nat) : ∀ n, 0 ≤ sumTo n (termW xs s i) ∧ sumTo n (termW xs s i) ≤ 16777216 * (n : Int) := by
  intro n
  induction n with
  | zero => exact ⟨Int.le_refl 0, Int.le_refl 0⟩
  | succ n ih =>
    have h0 : 0 ≤ termW xs s i n := nn_sq _ _ (Int.natCast_nonneg _)
    have h1 : termW xs s i n ≤ 16777216 := by
      have hv := valv_le (cls xs n)
      have hb := byteAt_lt s (i + n)
      unfold termW
      generalize valv (cls xs n) = v at *
      generalize byteAt s (i + n) = b at *
      rw [Int.mul_assoc]
      have hd : ((v : Int) - ((b : Int) + 1)) * ((v : Int) - ((b : Int) + 1)) ≤ 65536 := by
        rcases Int.le_total 0 ((v : Int) - ((b : Int) + 1)) with h | h
        · exact (sq_bd h (by omega)).2
        · have := (sq_bd (a := -((v : Int) - ((b : Int) + 1))) (by omega) (by omega)).2
          rwa [Int.neg_mul_neg] at this
      have hd0 := nn_sq 1 ((v : Int) - ((b : Int) + 1)) (by decide)
      rw [Int.one_mul] at hd0
      exact Int.le_trans (Int.mul_le_mul (show (v : Int) ≤ 256 by omega) hd hd0 (by decide)) (by decide)
    show 0 ≤ sumTo n _ + termW xs s i n ∧ sumTo n _ + termW xs s i n ≤ _
    omega
/-- What a place is told by the code. -/
def resW (wt a b : Int) : Int := IntKind.u64.wrap (IntKind.u64.wrap (wt - IntKind.u64.wrap (2 * a)) + b)
theorem resW_eq {wt a b : Int} (h0 : 0 ≤ wt - 2 * a + b) (h1 : wt - 2 * a + b ≤ 18446744073709551615) : resW wt a b = wt - 2 * a + b := by
  unfold resW
  rw [IntKind.wrap_u64, IntKind.wrap_u64, IntKind.wrap_u64]
  omega
def resL (xs : List Int) (n : Nat) (s : ByteArray) : List Int := if slb n s.size = true then mk (s.size - n + 1) (sumW xs n s) else []
/-- What the code tells, place by place. -/
theorem res_law {xs : List Int} {n : Nat} {s : ByteArray} {size : Int} (hn : n ≤ 64) (hsz : s.size ≤ 1000000) (he : errW n s.size size = 0) :
    berrv (sqL n (pV xs n)) (tV s) size = 0 ∧ berrv (pV xs n) (sqL s.size (tV s)) size = 0 ∧ (bval (sqL n (pV xs n)) (tV s) size).length = (resL xs n s).length ∧ (bval (pV xs n) (sqL s.size (tV s)) size).length = (resL xs n s).length ∧
      ∀ i, i < (resL xs n s).length → resW (weightv xs n) (nth (bval (sqL n (pV xs n)) (tV s) size) i) (nth (bval (pV xs n) (sqL s.size (tV s)) size) i) = nth (resL xs n s) i := by
  have b1 : berrv (sqL n (pV xs n)) (tV s) size = 0 := by
    rw [berr_small (c := 65536) (d := 256) (by decide) (by decide) (by decide) (sqL_bd (pV_bd xs n)) (tV_bd s) (by rw [sqL_len]; exact hn), sqL_len, tV_len]; exact he
  have b2 : berrv (pV xs n) (sqL s.size (tV s)) size = 0 := by
    rw [berr_small (c := 256) (d := 65536) (by decide) (by decide) (by decide) (pV_bd xs n) (sqL_bd (tV_bd s)) (by rw [pV_len]; exact hn), sqL_len, pV_len]; exact he
  refine ⟨b1, b2, ?_⟩
  rw [bval_of b1, bval_of b2, sqL_len, tV_len, pV_len, sqL_len]
  unfold resL
  by_cases hs : slb n s.size = true
  · have hs2 : 1 ≤ (n : Int) ∧ (n : Int) ≤ s.size := of_decide_eq_true hs
    rw [if_pos hs, if_pos hs, if_pos hs]
    unfold slidev
    rw [mk_length, mk_length, mk_length]
    refine ⟨rfl, rfl, fun i hi => ?_⟩
    rw [nth_mk hi, nth_mk hi, nth_mk hi]
    have hid := sum_id xs s i n (by omega) n (Nat.le_refl _)
    have hbd := sumW_bd xs s i n
    have m1 : 0 ≤ sl (nth (sqL n (pV xs n))) (nth (tV s)) n i ∧ sl (nth (sqL n (pV xs n))) (nth (tV s)) n i ≤ 16777216 * (n : Int) :=
      ⟨sumTo_nonneg fun j _ => Int.mul_nonneg (sqL_bd (pV_bd xs n) j).1 (tV_bd s _).1, sumTo_le (m := 16777216) fun j _ => Int.le_trans (Int.mul_le_mul (sqL_bd (pV_bd xs n) j).2 (tV_bd s _).2 (tV_bd s _).1 (by decide)) (by decide)⟩
    have m2 : 0 ≤ sl (nth (pV xs n)) (nth (sqL s.size (tV s))) n i ∧ sl (nth (pV xs n)) (nth (sqL s.size (tV s))) n i ≤ 16777216 * (n : Int) :=
      ⟨sumTo_nonneg fun j _ => Int.mul_nonneg (pV_bd xs n j).1 (sqL_bd (tV_bd s) _).1, sumTo_le (m := 16777216) fun j _ => Int.le_trans (Int.mul_le_mul (pV_bd xs n j).2 (sqL_bd (tV_bd s) _).2 (sqL_bd (tV_bd s) _).1 (by decide)) (by decide)⟩
    have id2 : weightv xs n - 2 * sl (nth (sqL n (pV xs n))) (nth (tV s)) n i + sl (nth (pV xs n)) (nth (sqL s.size (tV s))) n i = sumW xs n s i := hid
    have hbd2 : 0 ≤ sumW xs n s i ∧ sumW xs n s i ≤ 16777216 * (n : Int) := hbd
    rw [Int.emod_eq_of_lt m1.1 (by omega), Int.emod_eq_of_lt m2.1 (by omega), resW_eq (by rw [id2]; exact hbd2.1) (by rw [id2]; omega), id2]
  · rw [if_neg hs, if_neg hs, if_neg hs]
    exact ⟨rfl, rfl, fun i hi => absurd hi (Nat.not_lt_zero i)⟩
/-- The count, the error and the sums that a call of Sums tells. -/
def sumsE (xs : List Int) (n : Nat) (K : Int) (m : Nat) (size : Int) : Int := if (rightv xs n K && plainv xs n) = true then errW n m size else 170
def sumsL (xs : List Int) (n : Nat) (K : Int) (s : ByteArray) (size : Int) : List Int := if sumsE xs n K s.size size = 0 then resL xs n s else []
def sumsN (xs : List Int) (n : Nat) (K : Int) (m : Nat) (size : Int) : Int := if sumsE xs n K m size = 0 then 2 * countv n m size else 0
theorem rightv_n {xs : List Int} {n : Nat} {K : Int} (h : rightv xs n K = true) : 1 ≤ n ∧ n ≤ 64 ∧ contv xs n zerov = false ∧ 0 ≤ K ∧ K ≤ 64 := by
  unfold rightv at h
  simp at h
  exact ⟨by omega, by omega, h.1.1.2, by omega, by omega⟩
end Go.Proofs.Ytobailigphmopaa
