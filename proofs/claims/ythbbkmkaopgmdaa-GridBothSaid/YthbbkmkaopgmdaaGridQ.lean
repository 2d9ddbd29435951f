/-
  Layer 22 (grid), with no program in sight: turned, and turned back.
-/
import Derived.Test.YthbbkmkaopgmdaaWGrid12
namespace Go.Proofs.Ythbbkmkaopgmdaa
open Go.RowKit BG
set_option linter.unusedVariables false

theorem turnF_cls {xs : List Int} {V n : Nat} {k : Int} {j : Nat} (hj : j < n) : cls (turnF xs V n k) j = cls xs (cellAt V (n / V) k j) := by
  unfold turnF
  rw [flatC_cls _ j (by rw [turnT_len]; exact hj)]
  unfold turnT
  rw [List.getElem_map, List.getElem_range]
theorem wide_back {w h : Nat} {k k' : Int} (hk : (k + k') % 4 = 0) : wideN (wideN w h k) (highN w h k) k' = w ∧ highN (wideN w h k) (highN w h k) k' = h := by
  have q : (k % 4 = 0 ∧ k' % 4 = 0) ∨ (k % 4 = 1 ∧ k' % 4 = 3) ∨ (k % 4 = 2 ∧ k' % 4 = 2) ∨ (k % 4 = 3 ∧ k' % 4 = 1) := by omega
  unfold wideN highN
  rcases q with ⟨a, b⟩ | ⟨a, b⟩ | ⟨a, b⟩ | ⟨a, b⟩ <;> simp [a, b]
theorem cell_back {w h : Nat} {k k' : Int} (hk : (k + k') % 4 = 0) (p : Nat) : cellAt (wideN w h k) (highN w h k) k' p = posOf w h k p := by
  have q : (k % 4 = 0 ∧ k' % 4 = 0) ∨ (k % 4 = 1 ∧ k' % 4 = 3) ∨ (k % 4 = 2 ∧ k' % 4 = 2) ∨ (k % 4 = 3 ∧ k' % 4 = 1) := by omega
  unfold cellAt posOf
  rw [(wide_back hk).1]
  unfold cellXY rowOf colOf wideN highN
  rcases q with ⟨a, b⟩ | ⟨a, b⟩ | ⟨a, b⟩ | ⟨a, b⟩ <;> simp [a, b]
theorem div_high {w h n : Nat} (k : Int) (hw : 0 < w) (hh : 0 < h) (hn : n = w * h) : n / wideN w h k = highN w h k ∧ n % wideN w h k = 0 ∧ n = wideN w h k * highN w h k := by
  have hs := size_eq w h k
  have hp := (wide_pos k hw hh).1
  rw [hn, ← hs]
  exact ⟨Nat.mul_div_cancel_left _ hp, Nat.mul_mod_right _ _, rfl⟩
theorem turn_may {xs : List Int} {K n : Nat} (k : Int) (hK : 1 ≤ K) (hK2 : K ≤ 64) (h1 : 1 ≤ n / K) (h2 : n / K ≤ 64) (hn : n = K * (n / K)) (hc : contv xs n zerov = false) : mayb (wideN K (n / K) k : Nat) (turnF xs K n k) n = true := by
  obtain ⟨d1, d2, d3⟩ := div_high k (by omega) (by omega) hn
  have hp := wide_pos (w := K) (h := n / K) k (by omega) (by omega)
  have hl := wide_le (w := K) (h := n / K) (m := 64) k hK2 h2
  have hn0 : 0 < n := by
    have := Nat.mul_le_mul hK h1
    omega
  have hle : n ≤ 64 * wideN K (n / K) k := by
    have := Nat.mul_le_mul_right (wideN K (n / K) k) hl.2
    rw [Nat.mul_comm (highN K (n / K) k)] at this
    omega
  unfold mayb
  rw [show rowsb (wideN K (n / K) k : Nat) n = true from decide_eq_true ⟨by omega, by omega, by rw [Int.toNat_natCast]; exact d2, by rw [Int.toNat_natCast]; exact hle⟩, decide_eq_true hn0]
  have : contv (turnF xs K n k) n zerov = false := contv_no fun j hj e => by
    rw [turnF_cls hj] at e
    have hlt := cell_lt (w := K) (h := n / K) (p := j) k (by omega) (by omega) (by omega)
    have := contv_yes (xs := xs) (n := n) (v := zerov) (by omega : cellAt K (n / K) k j < n) e
    rw [hc] at this
    cases this
  rw [this]
  rfl
theorem mask_back {xs : List Int} {K n : Nat} {k k' : Int} (hk : (k + k') % 4 = 0) (hK : 1 ≤ K) (h1 : 1 ≤ n / K) (hn : n = K * (n / K)) : wideN (wideN K (n / K) k) (n / wideN K (n / K) k) k' = K ∧ ∀ j, j < n → cls (turnF (turnF xs K n k) (wideN K (n / K) k) n k') j = cls xs j := by
  obtain ⟨d1, d2, d3⟩ := div_high k (by omega) (by omega) hn
  refine ⟨by rw [d1]; exact (wide_back hk).1, fun j hj => ?_⟩
  rw [turnF_cls hj, d1, cell_back hk]
  have hp := posOf_lt (w := K) (h := n / K) (i := j) k (by omega) (by omega) (by omega)
  rw [turnF_cls (by omega), cell_pos k (by omega) (by omega) (by omega)]
theorem sameM_yes {V : Int} {xs ys : List Int} {n : Nat} (h : ∀ j, j < n → cls xs j = cls ys j) : sameM V V xs ys n n = true := by
  unfold sameM
  rw [decide_eq_true rfl, decide_eq_true rfl, Bool.true_and, Bool.true_and, List.all_eq_true]
  exact fun j hj => decide_eq_true (h j (List.mem_range.1 hj))
end Go.Proofs.Ythbbkmkaopgmdaa
