/-
  Layer 4 (conv): what is amiss with two rows.
-/
import Derived.Test.YthjedgniedpkfaaWConv1
namespace Go.Proofs.Ythjedgniedpkfaa
open Go.RowKit BG
attribute [local go_sem ↓] Go.wp_at_zero Go.wp_at_succ run_min_at run_max_at
set_option linter.unusedVariables false

theorem cerr_of (la lb : Nat) (x y : Int) (h : ¬ 4097 < la + lb) : cerr la lb x y = if ovr x y then 40 else if ovr (x * y) ((min la lb : Nat) : Int) then 40 else 0 := by
  unfold cerr ovr
  rw [if_neg h]
  by_cases h1 : x ≠ 0 ∧ 18446744073709551615 / x < y
  · simp [h1]
  · by_cases h2 : x * y ≠ 0 ∧ 18446744073709551615 / (x * y) < ((min la lb : Nat) : Int)
    · rw [if_neg h1, if_pos h2]; simp [h1, h2]
    · rw [if_neg h1, if_neg h2]; simp only [h1, h2, decide_false]; simp
theorem min_cast (a b : Nat) : min (a : Int) (b : Int) = ((min a b : Nat) : Int) := by omega
theorem ovr_no {x y : Int} (hx : 0 ≤ x) (hy : 0 ≤ y) (h : ovr x y = false) : x * y ≤ 18446744073709551615 := over_no hx hy (of_decide_eq_false h)
set_option maxHeartbeats 2000000 in
theorem check_c4 (A B : Option Addr) (ca cb : Nat) (xs ys : List Int) (hu : U64 xs) (hv : U64 ys) (hlx : xs.length ≤ 100000000000000) (hly : ys.length ≤ 100000000000000) (w : World) (hr : Rd .u64 w A xs) (hs : Rd .u64 w B ys) : Calls Try.prog 47 #[.slice A xs.length ca, .slice B ys.length cb] w (Ret (.int .i64 (cerr xs.length ys.length (greatest xs) (greatest ys))) w) := by
  have hm := hr.1
  have hm2 := hs.1
  by_cases hl : 4097 < xs.length + ys.length
  · rw [show cerr xs.length ys.length (greatest xs) (greatest ys) = 41 by unfold cerr; rw [if_pos hl]]
    go_enter Try.func47, Try.ntmps47
    go_wp2_with fail
    go_ret
    exact ⟨rfl, kept_refl _⟩
  · rw [cerr_of _ _ _ _ hl]
    have G1 := greatest_c A ca xs hu w hr
    have G2 := fun w1 (h : Rd .u64 w1 B ys) => greatest_c B cb ys hv w1 h
    have gx := greatest_bd hu
    have gy := greatest_bd hv
    have mc := min_cast xs.length ys.length
    have hmb : min xs.length ys.length ≤ 4097 := by omega
    have hl2 : xs.length + ys.length ≤ 4097 := by omega
    generalize greatest xs = x at *
    generalize greatest ys = y at *
    have O1 := over_c x y gx.1 gy.1
    cases h1 : ovr x y
    · have hxy := ovr_no gx.1 gy.1 h1
      have hxy0 := Int.mul_nonneg gx.1 gy.1
      have O2 := over_c (x * y) ((min xs.length ys.length : Nat) : Int) hxy0 (Int.natCast_nonneg _)
      rw [h1] at O1
      generalize ovr (x * y) ((min xs.length ys.length : Nat) : Int) = o2 at *
      generalize hN : min xs.length ys.length = N at *
      generalize hP : x * y = P at *
      clear h1 hN
      cases o2
      · rw [if_neg (by decide), if_neg (by decide)]
        go_enter Try.func47, Try.ntmps47
        go_wp2_with fail
        refine G1.mono ?_
        rintro e w1 ⟨rfl, hk1⟩
        have G2 := G2 w1 (hs.kept hk1)
        go_wp2_with fail
        refine G2.mono ?_
        rintro e w2 ⟨rfl, hk2⟩
        clear G1 G2
        go_wp2_with fail
        refine (O1 _).mono ?_
        rintro e w3 ⟨rfl, hk3⟩
        go_wp2_with fail
        refine (O2 _).mono ?_
        rintro e w4 ⟨rfl, hk4⟩
        go_wp2_with fail
        go_ret
        exact ⟨rfl, kept_trans hk1 (kept_trans hk2 (kept_trans hk3 hk4))⟩
      · rw [if_neg (by decide), if_pos rfl]
        go_enter Try.func47, Try.ntmps47
        go_wp2_with fail
        refine G1.mono ?_
        rintro e w1 ⟨rfl, hk1⟩
        have G2 := G2 w1 (hs.kept hk1)
        go_wp2_with fail
        refine G2.mono ?_
        rintro e w2 ⟨rfl, hk2⟩
        clear G1 G2
        go_wp2_with fail
        refine (O1 _).mono ?_
        rintro e w3 ⟨rfl, hk3⟩
        go_wp2_with fail
        refine (O2 _).mono ?_
        rintro e w4 ⟨rfl, hk4⟩
        go_wp2_with fail
        go_ret
        exact ⟨rfl, kept_trans hk1 (kept_trans hk2 (kept_trans hk3 hk4))⟩
    · rw [h1] at O1
      rw [if_pos rfl]
      generalize hN : min xs.length ys.length = N at *
      clear h1 hN
      go_enter Try.func47, Try.ntmps47
      go_wp2_with fail
      refine G1.mono ?_
      rintro e w1 ⟨rfl, hk1⟩
      have G2 := G2 w1 (hs.kept hk1)
      go_wp2_with fail
      refine G2.mono ?_
      rintro e w2 ⟨rfl, hk2⟩
      clear G1 G2
      go_wp2_with fail
      refine (O1 _).mono ?_
      rintro e w3 ⟨rfl, hk3⟩
      go_wp2_with fail
      go_ret
      exact ⟨rfl, kept_trans hk1 (kept_trans hk2 hk3)⟩
end Go.Proofs.Ythjedgniedpkfaa
