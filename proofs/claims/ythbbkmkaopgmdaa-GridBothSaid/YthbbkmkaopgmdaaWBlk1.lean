/-
  Layer 5 (block): sizes, what is amiss, how many transforms.
-/
import Derived.Test.YthbbkmkaopgmdaaWConvJ
namespace Go.Proofs.Ythbbkmkaopgmdaa
open Go.RowKit BG
attribute [local go_sem ↓] Go.wp_at_zero Go.wp_at_succ run_min_at run_max_at
set_option linter.unusedVariables false

def slb (m n : Int) : Bool := decide (1 ≤ m ∧ m ≤ n)
def szb (m size : Int) : Bool := hasLog size && decide (m ≤ size)
theorem szb_bd {m size : Int} (h : szb m size = true) : 1 ≤ size ∧ size ≤ 4096 ∧ m ≤ size := by
  unfold szb at h
  rw [Bool.and_eq_true] at h
  obtain ⟨h1, h2⟩ := log_some h.1
  have h3 : 2 ^ lgv size ≤ 2 ^ 12 := Nat.pow_le_pow_right (by decide) h1
  have h4 := Nat.two_pow_pos (lgv size)
  have h5 : m ≤ size := of_decide_eq_true h.2
  omega
theorem slides_c (m n : Int) (w : World) : Calls Try.prog 46 #[.int .i64 m, .int .i64 n] w (Ret (.bool (slb m n)) w) := by
  by_cases h1 : 1 ≤ m
  · by_cases h2 : m ≤ n
    · rw [show slb m n = true from decide_eq_true ⟨h1, h2⟩]
      go_enter Try.func46, Try.ntmps46
      go_wp2_with fail
      go_ret
      exact ⟨rfl, kept_refl _⟩
    · rw [show slb m n = false from decide_eq_false fun h => h2 h.2]
      go_enter Try.func46, Try.ntmps46
      go_wp2_with fail
      go_ret
      exact ⟨rfl, kept_refl _⟩
  · rw [show slb m n = false from decide_eq_false fun h => h1 h.1]
    have hd : decide (1 ≤ m) = false := decide_eq_false h1
    go_enter Try.func46, Try.ntmps46
    go_wp2_with fail
    go_ret
    exact ⟨rfl, kept_refl _⟩
theorem rslides_c (m n : Int) (w : World) : Calls Try.prog 59 #[.int .i64 m, .int .i64 n] w (Ret (.bool (slb m n)) w) := by
  by_cases h1 : 1 ≤ m
  · by_cases h2 : m ≤ n
    · rw [show slb m n = true from decide_eq_true ⟨h1, h2⟩]
      go_enter Try.func59, Try.ntmps59
      go_wp2_with fail
      go_ret
      exact ⟨rfl, kept_refl _⟩
    · rw [show slb m n = false from decide_eq_false fun h => h2 h.2]
      go_enter Try.func59, Try.ntmps59
      go_wp2_with fail
      go_ret
      exact ⟨rfl, kept_refl _⟩
  · rw [show slb m n = false from decide_eq_false fun h => h1 h.1]
    have hd : decide (1 ≤ m) = false := decide_eq_false h1
    go_enter Try.func59, Try.ntmps59
    go_wp2_with fail
    go_ret
    exact ⟨rfl, kept_refl _⟩
theorem sized_c (m size : Int) (w : World) : Calls Try.prog 66 #[.int .i64 m, .int .i64 size] w (Ret (.bool (szb m size)) w) := by
  unfold szb
  have C := log_c size w
  unfold Ltuple at C
  generalize lgv size = L at *
  cases h : hasLog size
  · rw [h] at C
    clear h
    go_enter Try.func66, Try.ntmps66
    go_wp2_with fail
    refine C.mono ?_
    rintro e w1 ⟨rfl, hk1⟩
    go_wp2_with fail
    go_ret
    exact ⟨rfl, hk1⟩
  · rw [h] at C
    clear h
    go_enter Try.func66, Try.ntmps66
    go_wp2_with fail
    refine C.mono ?_
    rintro e w1 ⟨rfl, hk1⟩
    go_wp2_with fail
    go_ret
    exact ⟨rfl, hk1⟩
theorem rsized_c (m size : Int) (w : World) : Calls Try.prog 60 #[.int .i64 m, .int .i64 size] w (Ret (.bool (szb m size)) w) := by
  unfold szb
  have C := rlog_c size w
  unfold Ltuple at C
  generalize lgv size = L at *
  cases h : hasLog size
  · rw [h] at C
    clear h
    go_enter Try.func60, Try.ntmps60
    go_wp2_with fail
    refine C.mono ?_
    rintro e w1 ⟨rfl, hk1⟩
    go_wp2_with fail
    go_ret
    exact ⟨rfl, hk1⟩
  · rw [h] at C
    clear h
    go_enter Try.func60, Try.ntmps60
    go_wp2_with fail
    refine C.mono ?_
    rintro e w1 ⟨rfl, hk1⟩
    go_wp2_with fail
    go_ret
    exact ⟨rfl, hk1⟩
/-- What is amiss with two rows in blocks. -/
def berr (m n size : Int) (x y : Int) : Int := if slb m n then (if szb m size then (if ovr x y then 40 else if ovr (x * y) m then 40 else 0) else 50) else 0
set_option maxHeartbeats 2000000 in
theorem check_c5 (A B : Option Addr) (ca cb : Nat) (xs ys : List Int) (size : Int) (hu : U64 xs) (hv : U64 ys) (hlx : xs.length ≤ 100000000000000) (hly : ys.length ≤ 100000000000000) (w : World) (hr : Rd .u64 w A xs) (hs : Rd .u64 w B ys) : Calls Try.prog 45 #[.slice A xs.length ca, .slice B ys.length cb, .int .i64 size] w (Ret (.int .i64 (berr xs.length ys.length size (greatest xs) (greatest ys))) w) := by
  have hm := hr.1
  have hm2 := hs.1
  unfold berr
  have S1 := slides_c xs.length ys.length w
  cases h1 : slb xs.length ys.length
  · rw [h1] at S1
    rw [if_neg (by decide)]
    clear h1
    go_enter Try.func45, Try.ntmps45
    go_wp2_with fail
    refine S1.mono ?_
    rintro e w1 ⟨rfl, hk1⟩
    go_wp2_with fail
    go_ret
    exact ⟨rfl, hk1⟩
  rw [h1] at S1
  have S2 := fun w => sized_c xs.length size w
  cases h2 : szb xs.length size
  · rw [h2] at S2
    rw [if_pos rfl, if_neg (by decide)]
    clear h1 h2
    go_enter Try.func45, Try.ntmps45
    go_wp2_with fail
    refine S1.mono ?_
    rintro e w1 ⟨rfl, hk1⟩
    go_wp2_with fail
    refine (S2 _).mono ?_
    rintro e w2 ⟨rfl, hk2⟩
    go_wp2_with fail
    go_ret
    exact ⟨rfl, kept_trans hk1 hk2⟩
  have hb := szb_bd h2
  rw [h2] at S2
  rw [if_pos rfl, if_pos rfl]
  clear h1 h2
  have G1 := fun w1 (h : Rd .u64 w1 A xs) => greatest_c A ca xs hu w1 h
  have G2 := fun w1 (h : Rd .u64 w1 B ys) => greatest_c B cb ys hv w1 h
  have gx := greatest_bd hu
  have gy := greatest_bd hv
  generalize greatest xs = x at *
  generalize greatest ys = y at *
  by_cases hx0 : x = 0
  · have e0 : ovr (0 : Int) y = false := by simp [ovr]
    have e1 : ovr (0 * y : Int) xs.length = false := by simp [ovr]
    subst hx0
    rw [e0, if_neg (by decide), e1, if_neg (by decide)]
    clear e0 e1
    go_enter Try.func45, Try.ntmps45
    go_wp2_with fail
    refine S1.mono ?_
    rintro e w1 ⟨rfl, hk1⟩
    go_wp2_with fail
    refine (S2 _).mono ?_
    rintro e w2 ⟨rfl, hk2⟩
    have G1 := G1 w2 ((hr.kept hk1).kept hk2)
    go_wp2_with fail
    refine G1.mono ?_
    rintro e w3 ⟨rfl, hk3⟩
    have G2 := G2 w3 (((hs.kept hk1).kept hk2).kept hk3)
    go_wp2_with fail
    refine G2.mono ?_
    rintro e w4 ⟨rfl, hk4⟩
    clear G1 G2 S1 S2
    go_wp2_with fail
    go_ret
    exact ⟨rfl, kept_trans hk1 (kept_trans hk2 (kept_trans hk3 hk4))⟩
  have hbx : (x == 0) = false := by simpa using hx0
  have hd : (18446744073709551615 : Int).tdiv x = 18446744073709551615 / x := Int.tdiv_eq_ediv_of_nonneg (by decide)
  have hd0 : 0 ≤ 18446744073709551615 / x := Int.ediv_nonneg (by decide) gx.1
  have hd1 : 18446744073709551615 / x ≤ 18446744073709551615 := Int.ediv_le_self _ (by decide)
  by_cases h1 : 18446744073709551615 / x < y
  · rw [show ovr x y = true from decide_eq_true ⟨hx0, h1⟩, if_pos rfl]
    generalize (18446744073709551615 : Int) / x = d at *
    go_enter Try.func45, Try.ntmps45
    go_wp2_with fail
    refine S1.mono ?_
    rintro e w1 ⟨rfl, hk1⟩
    go_wp2_with fail
    refine (S2 _).mono ?_
    rintro e w2 ⟨rfl, hk2⟩
    have G1 := G1 w2 ((hr.kept hk1).kept hk2)
    go_wp2_with fail
    refine G1.mono ?_
    rintro e w3 ⟨rfl, hk3⟩
    have G2 := G2 w3 (((hs.kept hk1).kept hk2).kept hk3)
    go_wp2_with fail
    refine G2.mono ?_
    rintro e w4 ⟨rfl, hk4⟩
    clear G1 G2 S1 S2
    go_wp2_with fail
    go_ret
    exact ⟨rfl, kept_trans hk1 (kept_trans hk2 (kept_trans hk3 hk4))⟩
  rw [show ovr x y = false from decide_eq_false fun h => h1 h.2, if_neg (by decide)]
  have hxy := over_no gx.1 gy.1 (fun h => h1 h.2)
  have hxy0 := Int.mul_nonneg gx.1 gy.1
  have hov : ovr (x * y) xs.length = decide (x * y ≠ 0 ∧ 18446744073709551615 / (x * y) < (xs.length : Int)) := rfl
  rw [hov]
  clear hov
  have h1' : decide (18446744073709551615 / x < y) = false := decide_eq_false h1
  generalize (18446744073709551615 : Int) / x = d at *
  have hyx : y * x = x * y := Int.mul_comm _ _
  generalize hP : x * y = P at *
  have HP := Lib.hid hP
  by_cases hp0 : P = 0
  · subst hp0
    rw [if_neg (by simp)]
    go_enter Try.func45, Try.ntmps45
    go_wp2_with fail
    refine S1.mono ?_
    rintro e w1 ⟨rfl, hk1⟩
    go_wp2_with fail
    refine (S2 _).mono ?_
    rintro e w2 ⟨rfl, hk2⟩
    have G1 := G1 w2 ((hr.kept hk1).kept hk2)
    go_wp2_with fail
    refine G1.mono ?_
    rintro e w3 ⟨rfl, hk3⟩
    have G2 := G2 w3 (((hs.kept hk1).kept hk2).kept hk3)
    go_wp2_with fail
    refine G2.mono ?_
    rintro e w4 ⟨rfl, hk4⟩
    clear G1 G2 S1 S2
    go_wp2_with fail
    go_ret
    exact ⟨rfl, kept_trans hk1 (kept_trans hk2 (kept_trans hk3 hk4))⟩
  have hbp : (P == 0) = false := by simpa using hp0
  have he : (18446744073709551615 : Int).tdiv P = 18446744073709551615 / P := Int.tdiv_eq_ediv_of_nonneg (by decide)
  have he0 : 0 ≤ 18446744073709551615 / P := Int.ediv_nonneg (by decide) hxy0
  have he1 : 18446744073709551615 / P ≤ 18446744073709551615 := Int.ediv_le_self _ (by decide)
  generalize (18446744073709551615 : Int) / P = d2 at *
  by_cases h2 : d2 < (xs.length : Int)
  · rw [if_pos (decide_eq_true ⟨hp0, h2⟩)]
    go_enter Try.func45, Try.ntmps45
    go_wp2_with fail
    refine S1.mono ?_
    rintro e w1 ⟨rfl, hk1⟩
    go_wp2_with fail
    refine (S2 _).mono ?_
    rintro e w2 ⟨rfl, hk2⟩
    have G1 := G1 w2 ((hr.kept hk1).kept hk2)
    go_wp2_with fail
    refine G1.mono ?_
    rintro e w3 ⟨rfl, hk3⟩
    have G2 := G2 w3 (((hs.kept hk1).kept hk2).kept hk3)
    go_wp2_with fail
    refine G2.mono ?_
    rintro e w4 ⟨rfl, hk4⟩
    clear G1 G2 S1 S2
    go_wp2_with fail
    go_ret
    exact ⟨rfl, kept_trans hk1 (kept_trans hk2 (kept_trans hk3 hk4))⟩
  · rw [if_neg (by simp [h2])]
    have h2' : decide (d2 < (xs.length : Int)) = false := decide_eq_false h2
    go_enter Try.func45, Try.ntmps45
    go_wp2_with fail
    refine S1.mono ?_
    rintro e w1 ⟨rfl, hk1⟩
    go_wp2_with fail
    refine (S2 _).mono ?_
    rintro e w2 ⟨rfl, hk2⟩
    have G1 := G1 w2 ((hr.kept hk1).kept hk2)
    go_wp2_with fail
    refine G1.mono ?_
    rintro e w3 ⟨rfl, hk3⟩
    have G2 := G2 w3 (((hs.kept hk1).kept hk2).kept hk3)
    go_wp2_with fail
    refine G2.mono ?_
    rintro e w4 ⟨rfl, hk4⟩
    clear G1 G2 S1 S2
    go_wp2_with fail
    go_ret
    exact ⟨rfl, kept_trans hk1 (kept_trans hk2 (kept_trans hk3 hk4))⟩
end Go.Proofs.Ythbbkmkaopgmdaa
