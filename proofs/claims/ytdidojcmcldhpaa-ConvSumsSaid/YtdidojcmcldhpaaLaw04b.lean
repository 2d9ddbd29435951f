/-
  Layer 4's statements: the walks.
-/
import Derived.Test.YtdidojcmcldhpaaLaw04
import Derived.Laws.AppendOwnNone
namespace Go.Proofs.Ytdidojcmcldhpaa
open Go.RowKit BG
attribute [local go_sem ↓] Go.wp_at_zero Go.wp_at_succ
set_option linter.unusedVariables false

theorem ovr_iff {x y : Int} (hx : 0 ≤ x) : ovr x y = decide (18446744073709551615 < x * y) := by
  unfold ovr
  by_cases h0 : x = 0
  · subst h0; simp
  · have hp : 0 < x := by omega
    have : 18446744073709551615 / x < y ↔ 18446744073709551615 < x * y := by rw [Int.mul_comm]; exact Int.ediv_lt_iff_lt_mul hp
    simp [h0, this]
theorem cerr_swap {la lb : Nat} {x y : Int} (hx : 0 ≤ x) (hy : 0 ≤ y) : cerr la lb x y = cerr lb la y x := by
  by_cases h : 4097 < la + lb
  · unfold cerr; rw [if_pos h, if_pos (by omega)]
  · rw [cerr_of _ _ _ _ h, cerr_of _ _ _ _ (by omega), ovr_iff hx, ovr_iff hy, Int.mul_comm x y, Nat.min_comm]
theorem perr_swap {xs ys : List Int} (hu : U64 xs) (hv : U64 ys) : perr ys xs = perr xs ys := by
  unfold perr
  rw [cerr_swap (greatest_bd hv).1 (greatest_bd hu).1]
  by_cases h : xs.length = 0 ∨ ys.length = 0
  · rw [if_pos h, if_pos (by omega)]
  · rw [if_neg h, if_neg (by omega)]
theorem pval_swap {xs ys : List Int} (hu : U64 xs) (hv : U64 ys) : pval ys xs = pval xs ys := by
  have hp := perr_swap hu hv
  unfold pval
  rw [hp]
  by_cases h : xs.length = 0 ∨ ys.length = 0 ∨ perr xs ys ≠ 0
  · rw [if_pos h, if_pos (by omega)]
  · rw [if_neg h, if_neg (by omega)]
    unfold prodv
    rw [Nat.add_comm]
    exact mk_congr fun t _ => by rw [cs_swap]
set_option maxHeartbeats 2000000 in
theorem convSwaps_w (A B : Option Addr) (ca cb : Nat) (xs ys : List Int) (hu : U64 xs) (hv : U64 ys) (hlx : xs.length ≤ 100000000000000) (hly : ys.length ≤ 100000000000000) (w : World) (hr : Rd .u64 w A xs) (hs : Rd .u64 w B ys) : Calls Try.prog 7 #[.slice A xs.length ca, .slice B ys.length cb] w (Ret (.bool true) w) := by
  by_cases h : xs.length + ys.length ≤ 5000
  · have hmul : (xs.length : Int) * (ys.length : Int) = ((xs.length * ys.length : Nat) : Int) := (Int.natCast_mul _ _).symm
    have hmb : xs.length * ys.length ≤ 5000 * 5000 := Nat.mul_le_mul (by omega) (by omega)
    by_cases h2 : xs.length * ys.length ≤ 1000000
    · have F1 := fun w1 a b => fast_c A B ca cb xs ys hu hv hlx hly w1 a b
      have F2 := fun w1 a b => fast_c B A cb ca ys xs hv hu hly hlx w1 a b
      have F3 := fun w1 a b => school_c A B ca cb xs ys hu hv hlx hly w1 a b
      rw [pval_swap hu hv, perr_swap hu hv] at F2
      have g1 : decide (5000 < (xs.length : Int) + (ys.length : Int)) = false := decide_eq_false (by omega)
      generalize pval xs ys = pv at *
      generalize perr xs ys = pe at *
      generalize xs.length * ys.length = P at *
      go_enter Try.func7, Try.ntmps7
      have F1 := F1 w hr hs
      go_wp2_with fail
      refine F1.mono ?_
      rintro e w1 ⟨A1, c1, rfl, r1, hk1, _, _⟩
      clear F1
      have F2 := F2 w1 (hs.kept hk1) (hr.kept hk1)
      go_wp2_with fail
      refine F2.mono ?_
      rintro e w2 ⟨A2, c2, rfl, r2, hk2, _, _⟩
      clear F2
      have F3 := F3 w2 (hr.kept (kept_trans hk1 hk2)) (hs.kept (kept_trans hk1 hk2))
      go_wp2_with fail
      refine F3.mono ?_
      rintro e w3 ⟨A3, c3, rfl, r3, hk3, _, _⟩
      clear F3
      go_wp2_with fail
      refine (alive04_c _).mono ?_
      rintro e w4 ⟨rfl, hk4⟩
      replace r1 := r1.kept (kept_trans hk2 (kept_trans hk3 hk4))
      replace r2 := r2.kept (kept_trans hk3 hk4)
      replace r3 := r3.kept hk4
      have hk := kept_trans hk1 (kept_trans hk2 (kept_trans hk3 hk4))
      clear hk1 hk2 hk3 hk4
      have S1 := same_c A1 A2 c1 c2 pv pv w4 r1 r2
      rw [sameL_refl] at S1
      go_wp2_with fail
      refine S1.mono ?_
      rintro e w5 ⟨rfl, hk5⟩
      clear S1
      have S2 := same_c A1 A3 c1 c3 pv pv w5 (r1.kept hk5) (r3.kept hk5)
      rw [sameL_refl] at S2
      go_wp2_with fail
      refine S2.mono ?_
      rintro e w6 ⟨rfl, hk6⟩
      clear S2
      go_wp2_with fail
      go_ret
      exact ⟨rfl, kept_trans hk (kept_trans hk5 hk6)⟩
    · have g1 : decide (5000 < (xs.length : Int) + (ys.length : Int)) = false := decide_eq_false (by omega)
      generalize xs.length * ys.length = P at *
      have g2 : 1000000 < P := by omega
      go_enter Try.func7, Try.ntmps7
      go_wp2_with fail
      refine (alive04_c _).mono ?_
      rintro e w1 ⟨rfl, hk1⟩
      go_wp2_with fail
      go_ret
      exact ⟨rfl, hk1⟩
  · have g1 : 5000 < (xs.length : Int) + (ys.length : Int) := by omega
    have g2 : decide (5000 < (xs.length : Int) + (ys.length : Int)) = true := decide_eq_true g1
    clear h
    go_enter Try.func7, Try.ntmps7
    go_wp2_with fail
    refine (alive04_c _).mono ?_
    rintro e w1 ⟨rfl, hk1⟩
    go_wp2_with fail
    go_ret
    exact ⟨rfl, hk1⟩
end Go.Proofs.Ytdidojcmcldhpaa
