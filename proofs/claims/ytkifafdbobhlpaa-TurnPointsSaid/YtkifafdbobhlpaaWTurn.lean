/-
  Layer 21 (turn): what its functions, and the document's, give.
-/
import Derived.Test.YtkifafdbobhlpaaBase
import Derived.Test.YtkifafdbobhlpaaFlt
import Derived.Test.YtkifafdbobhlpaaEq
import Derived.Test.YtkifafdbobhlpaaSl
namespace Go.Proofs.Ytkifafdbobhlpaa
open Go.RowKit BG
attribute [local go_sem ↓] Go.wp_at_zero Go.wp_at_succ
set_option linter.unusedVariables false

abbrev arr2 (x y : Int) : Value := .agg #[.int .i64 x, .int .i64 y]
def rx (x y k : Int) : Int := if k % 4 = 0 then x else if k % 4 = 1 then -y else if k % 4 = 2 then -x else y
def ry (x y k : Int) : Int := if k % 4 = 0 then y else if k % 4 = 1 then x else if k % 4 = 2 then -y else -x
def pre (k : Int) : Nat := if k % 4 = 0 then 4607182418800017408 else if k % 4 = 1 then 0 else if k % 4 = 2 then 13830554455654793216 else 9223372036854775808
def pim (k : Int) : Nat := if k % 4 = 0 then 0 else if k % 4 = 1 then 4607182418800017408 else if k % 4 = 2 then 0 else 13830554455654793216
theorem eq2 (a b c d : Int) (w : World) : (Op.equalIn 10000 35 (.agg #[.int .i64 a, .int .i64 b]) (.agg #[.int .i64 c, .int .i64 d])).run Try.prog w = .ok ([a, b] == [c, d]) w :=
  run_equalIn_ints w .i64 9998 35 3 2 Try.underlying35 Try.underlying3 (fun w => by kernel_rfl) [a, b] [c, d] rfl rfl
theorem eq2_same (a b : Int) (w : World) : (Op.equalIn 10000 35 (.agg #[.int .i64 a, .int .i64 b]) (.agg #[.int .i64 a, .int .i64 b])).run Try.prog w = .ok true w := by rw [eq2]; simp
theorem tm4 (k : Int) : -4 < k.tmod 4 ∧ k.tmod 4 < 4 ∧ (k.tmod 4 + 4).tmod 4 = k % 4 ∧ (k.tmod 4 = k % 4 ∨ k % 4 ≠ 0 ∧ k.tmod 4 = k % 4 - 4) := by
  have h := Int.tmod_eq_emod (a := k) (b := 4)
  have e : k.tmod 4 = k % 4 ∨ k % 4 ≠ 0 ∧ k.tmod 4 = k % 4 - 4 := by
    by_cases hc : 0 ≤ k ∨ 4 ∣ k
    · rw [if_pos hc] at h
      exact .inl (by omega)
    · rw [if_neg hc, show ((Int.natAbs 4 : Nat) : Int) = 4 from rfl] at h
      generalize k.tmod 4 = t at *
      exact .inr ⟨by omega, h⟩
  have e2 : -4 < k.tmod 4 ∧ k.tmod 4 < 4 := by generalize k.tmod 4 = t at *; omega
  refine ⟨e2.1, e2.2, ?_, e⟩
  generalize k.tmod 4 = t at *
  rw [Int.tmod_eq_emod_of_nonneg (by omega)]
  omega
theorem conv_fi (re : Nat) (x : Int) (h : floatToIntVal .f64 re .i64 = some x) (w : World) : (convert 50 3 (.float .f64 re)).run Try.prog w = .ok (.int .i64 x) w :=
  run_convert_float_int w _ _ .f64 .i64 re x (by rw [Try.underlying50]; rfl) Try.underlying3 h
theorem cmul_at (a b c d re im : Nat) (h : cMulBits a b c d = some (re, im)) (w : World) : (binOp .mul 44 (.complex .f64 a b) (.complex .f64 c d)).run Try.prog w = .ok (.complex .f64 re im) w :=
  run_complex_mul w _ a b c d re im h
theorem point_c (x y : Int) (w : World) : Calls Try.prog 22 #[arr2 x y] w (Ret (.complex .f64 (floatOfInt .f64 x) (floatOfInt .f64 y)) w) := by
  unfold arr2
  go_enter Try.func22, Try.ntmps22
  go_wp2_with fail
  go_ret
  exact ⟨rfl, kept_alloc (kept_refl _) _⟩
theorem corner_c (re im : Nat) (x y : Int) (hx : Rep re x) (hy : Rep im y) (bx : -9223372036854775808 ≤ x ∧ x ≤ 9223372036854775807) (bY : -9223372036854775808 ≤ y ∧ y ≤ 9223372036854775807) (w : World) : Calls Try.prog 21 #[.complex .f64 re im] w (Ret (arr2 x y) w) := by
  have h1 := conv_fi _ _ (rep_toInt hx bx)
  have h2 := conv_fi _ _ (rep_toInt hy bY)
  go_enter Try.func21, Try.ntmps21
  go_wp2_with fail
  refine bodyPost_ret (v := arr2 x y) (by simp [results, Try.results21, go_sem]) rfl ⟨rfl, by go_grown⟩
theorem power_c (k : Int) (h1 : -9223372036854775808 ≤ k) (h2 : k ≤ 9223372036854775807) (w : World) : Calls Try.prog 23 #[.int .i64 k] w (Ret (.complex .f64 (pre k) (pim k)) w) := by
  have e1 := cmul_at 4607182418800017408 0 0 4607182418800017408 0 4607182418800017408 (by decide +kernel)
  have e2 := cmul_at 0 4607182418800017408 0 4607182418800017408 13830554455654793216 0 (by decide +kernel)
  have e3 := cmul_at 13830554455654793216 0 0 4607182418800017408 9223372036854775808 13830554455654793216 (by decide +kernel)
  obtain ⟨t1, t2, t3, _⟩ := tm4 k
  have q : k % 4 = 0 ∨ k % 4 = 1 ∨ k % 4 = 2 ∨ k % 4 = 3 := by omega
  rcases q with q | q | q | q
  · have hm : (k.tmod 4 + 4).tmod 4 = 0 := t3.trans q
    clear t3
    have hp : pre k = 4607182418800017408 := by simp [pre, q]
    have hi : pim k = 0 := by simp [pim, q]
    rw [hp, hi]
    clear hp hi q
    go_enter Try.func23, Try.ntmps23
    go_wp2_with fail
    refine wp_loop_rounds 5 ?_
    rw [rounds_succ]
    go_wp2_with fail
    go_ret
    exact ⟨rfl, kept_refl _⟩
  · have hm : (k.tmod 4 + 4).tmod 4 = 1 := t3.trans q
    clear t3
    have hp : pre k = 0 := by simp [pre, q]
    have hi : pim k = 4607182418800017408 := by simp [pim, q]
    rw [hp, hi]
    clear hp hi q
    go_enter Try.func23, Try.ntmps23
    go_wp2_with fail
    refine wp_loop_rounds 5 ?_
    rw [rounds_succ]
    go_wp2_with fail
    rw [rounds_succ]
    go_wp2_with fail
    go_ret
    exact ⟨rfl, kept_refl _⟩
  · have hm : (k.tmod 4 + 4).tmod 4 = 2 := t3.trans q
    clear t3
    have hp : pre k = 13830554455654793216 := by simp [pre, q]
    have hi : pim k = 0 := by simp [pim, q]
    rw [hp, hi]
    clear hp hi q
    go_enter Try.func23, Try.ntmps23
    go_wp2_with fail
    refine wp_loop_rounds 5 ?_
    rw [rounds_succ]
    go_wp2_with fail
    rw [rounds_succ]
    go_wp2_with fail
    rw [rounds_succ]
    go_wp2_with fail
    go_ret
    exact ⟨rfl, kept_refl _⟩
  · have hm : (k.tmod 4 + 4).tmod 4 = 3 := t3.trans q
    clear t3
    have hp : pre k = 9223372036854775808 := by simp [pre, q]
    have hi : pim k = 13830554455654793216 := by simp [pim, q]
    rw [hp, hi]
    clear hp hi q
    go_enter Try.func23, Try.ntmps23
    go_wp2_with fail
    refine wp_loop_rounds 5 ?_
    rw [rounds_succ]
    go_wp2_with fail
    rw [rounds_succ]
    go_wp2_with fail
    rw [rounds_succ]
    go_wp2_with fail
    rw [rounds_succ]
    go_wp2_with fail
    go_ret
    exact ⟨rfl, kept_refl _⟩
def inb (x : Int) : Bool := decide (-1048576 ≤ x ∧ x ≤ 1048576)
def win (x y : Int) : Bool := inb x && inb y
theorem within_c (x y : Int) (w : World) : Calls Try.prog 20 #[arr2 x y] w (Ret (.bool (win x y)) w) := by
  unfold arr2
  have q := eq2
  go_enter Try.func20, Try.ntmps20
  go_wp2_with fail
  all_goals (go_ret; refine ⟨congrArg (fun b => Ending.returned (Value.bool b)) (?_ : _ = win x y), by go_grown⟩; rw [Bool.eq_iff_iff]; simp [win, inb]; omega)
theorem quarters_c (k : Int) (w : World) : Calls Try.prog 26 #[.int .i64 k] w (fun e w1 => e = .returned (.int .i64 (k % 4)) ∧ w1 = w) := by
  obtain ⟨t1, t2, t3, t4⟩ := tm4 k
  rcases t4 with t4 | t4
  · have hc : ¬ k.tmod 4 < 0 := by omega
    have hv : k.tmod 4 = k % 4 := by omega
    rw [← hv]
    clear hv t4 t3
    go_enter Try.func26, Try.ntmps26
    go_wp2_with fail
    go_ret
    exact ⟨rfl, rfl⟩
  · have hc :  k.tmod 4 < 0 := by omega
    have hv : k.tmod 4 + 4 = k % 4 := by omega
    rw [← hv]
    clear hv t4 t3
    go_enter Try.func26, Try.ntmps26
    go_wp2_with fail
    go_ret
    exact ⟨rfl, rfl⟩
theorem rwithin_s (n : Int) (w : World) : Calls Try.prog 24 #[.int .i64 n] w (fun e w1 => e = .returned (.bool (inb n)) ∧ w1 = w) := by
  go_enter Try.func24, Try.ntmps24
  go_wp2_with fail
  all_goals (go_ret; refine ⟨congrArg (fun b => Ending.returned (Value.bool b)) (?_ : _ = inb n), rfl⟩; rw [Bool.eq_iff_iff]; simp [inb]; omega)
theorem rwithin_c (n : Int) (w : World) : Calls Try.prog 24 #[.int .i64 n] w (Ret (.bool (inb n)) w) :=
  (rwithin_s n w).mono fun e w' ⟨h1, h2⟩ => ⟨h1, by rw [h2]; exact kept_refl _⟩
theorem rep_zero : Rep 0 0 := ⟨false, 0, -1074, read_zero false, 0, 1074, by omega, by rw [Int.zero_mul]; rfl⟩
theorem rep_mzero : Rep 9223372036854775808 0 := ⟨true, 0, -1074, read_zero true, 0, 1074, by omega, by rw [Int.zero_mul]; rfl⟩
theorem rep_one : Rep 4607182418800017408 1 := ⟨false, 4503599627370496, -52, by decide +kernel, 0, 52, by omega, by decide⟩
theorem rep_mone : Rep 13830554455654793216 (-1) := ⟨true, 4503599627370496, -52, by decide +kernel, 0, 52, by omega, by decide⟩
def Small (x : Int) : Prop := -4194304 ≤ x ∧ x ≤ 4194304
theorem turn_bits (x y k : Int) (hx : Small x) (hy : Small y) : ∃ re im, cMulBits (floatOfInt .f64 x) (floatOfInt .f64 y) (pre k) (pim k) = some (re, im) ∧ Rep re (rx x y k) ∧ Rep im (ry x y k) := by
  obtain ⟨hx1, hx2⟩ := hx
  obtain ⟨hy1, hy2⟩ := hy
  have a := rep_int x (by omega)
  have b := rep_int y (by omega)
  have q : k % 4 = 0 ∨ k % 4 = 1 ∨ k % 4 = 2 ∨ k % 4 = 3 := by omega
  have key : ∀ (c d : Nat) (u v : Int), Rep c u → Rep d v → (u = 0 ∨ u = 1 ∨ u = -1) → (v = 0 ∨ v = 1 ∨ v = -1) → x * u - y * v = rx x y k → x * v + y * u = ry x y k → ∃ re im, cMulBits (floatOfInt .f64 x) (floatOfInt .f64 y) c d = some (re, im) ∧ Rep re (rx x y k) ∧ Rep im (ry x y k) := by
    intro c d u v hc hd hu hv h1 h2
    have := rep_cmul a b hc hd (by rcases hu with rfl | rfl | rfl <;> omega) (by rcases hv with rfl | rfl | rfl <;> omega) (by rcases hv with rfl | rfl | rfl <;> omega) (by rcases hu with rfl | rfl | rfl <;> omega)
    rwa [h1, h2] at this
  rcases q with q | q | q | q
  · rw [show pre k = 4607182418800017408 by simp [pre, q], show pim k = 0 by simp [pim, q]]
    exact key _ _ 1 0 rep_one rep_zero (by simp) (by simp) (by simp [rx, q]) (by simp [ry, q])
  · rw [show pre k = 0 by simp [pre, q], show pim k = 4607182418800017408 by simp [pim, q]]
    exact key _ _ 0 1 rep_zero rep_one (by simp) (by simp) (by simp [rx, q]) (by simp [ry, q])
  · rw [show pre k = 13830554455654793216 by simp [pre, q], show pim k = 0 by simp [pim, q]]
    exact key _ _ (-1) 0 rep_mone rep_zero (by simp) (by simp) (by simp [rx, q]) (by simp [ry, q])
  · rw [show pre k = 9223372036854775808 by simp [pre, q], show pim k = 13830554455654793216 by simp [pim, q]]
    exact key _ _ 0 (-1) rep_mzero rep_mone (by simp) (by simp) (by simp [rx, q]) (by simp [ry, q])
theorem rot_bd {x y : Int} (k : Int) {l : Int} (hx : -l ≤ x ∧ x ≤ l) (hy : -l ≤ y ∧ y ≤ l) : (-l ≤ rx x y k ∧ rx x y k ≤ l) ∧ (-l ≤ ry x y k ∧ ry x y k ≤ l) := by
  unfold rx ry
  by_cases h0 : k % 4 = 0
  · simp only [h0, if_true]; exact ⟨hx, hy⟩
  by_cases h1 : k % 4 = 1
  · simp only [h1, if_true]; omega
  by_cases h2 : k % 4 = 2
  · simp only [h2, if_true]; omega
  simp only [h0, h1, h2, if_false]; omega
theorem rturn_c (x y k : Int) (hx : -9223372036854775807 ≤ x ∧ x ≤ 9223372036854775807) (hy : -9223372036854775807 ≤ y ∧ y ≤ 9223372036854775807) (w : World) : Calls Try.prog 25 #[arr2 x y, .int .i64 k] w (Ret (arr2 (rx x y k) (ry x y k)) w) := by
  unfold arr2
  have q : k % 4 = 0 ∨ k % 4 = 1 ∨ k % 4 = 2 ∨ k % 4 = 3 := by omega
  rcases q with q | q | q | q
  · rw [show rx x y k = x by simp [rx, q], show ry x y k = y by simp [ry, q]]
    go_enter Try.func25, Try.ntmps25
    go_wp2_with fail
    refine wp_loop_rounds 1 ?_
    rw [rounds_succ]
    go_wp2_with fail
    refine (quarters_c k _).mono ?_
    rw [q]
    rintro e w1 ⟨rfl, rfl⟩
    go_wp2_with fail
    exact bodyPost_ret (v := arr2 (x) (y)) (by simp [results, Try.results25, go_sem, arr2]) rfl ⟨rfl, by go_grown⟩
  · rw [show rx x y k = -y by simp [rx, q], show ry x y k = x by simp [ry, q]]
    go_enter Try.func25, Try.ntmps25
    go_wp2_with fail
    refine wp_loop_rounds 2 ?_
    rw [rounds_succ]
    go_wp2_with fail
    refine (quarters_c k _).mono ?_
    rw [q]
    rintro e w1 ⟨rfl, rfl⟩
    go_wp2_with fail
    rw [rounds_succ]
    go_wp2_with fail
    refine (quarters_c k _).mono ?_
    rw [q]
    rintro e w1 ⟨rfl, rfl⟩
    go_wp2_with fail
    exact bodyPost_ret (v := arr2 (-y) (x)) (by simp [results, Try.results25, go_sem, arr2]) rfl ⟨rfl, by go_grown⟩
  · rw [show rx x y k = -x by simp [rx, q], show ry x y k = -y by simp [ry, q]]
    go_enter Try.func25, Try.ntmps25
    go_wp2_with fail
    refine wp_loop_rounds 3 ?_
    rw [rounds_succ]
    go_wp2_with fail
    refine (quarters_c k _).mono ?_
    rw [q]
    rintro e w1 ⟨rfl, rfl⟩
    go_wp2_with fail
    rw [rounds_succ]
    go_wp2_with fail
    refine (quarters_c k _).mono ?_
    rw [q]
    rintro e w1 ⟨rfl, rfl⟩
    go_wp2_with fail
    rw [rounds_succ]
    go_wp2_with fail
    refine (quarters_c k _).mono ?_
    rw [q]
    rintro e w1 ⟨rfl, rfl⟩
    go_wp2_with fail
    exact bodyPost_ret (v := arr2 (-x) (-y)) (by simp [results, Try.results25, go_sem, arr2]) rfl ⟨rfl, by go_grown⟩
  · rw [show rx x y k = y by simp [rx, q], show ry x y k = -x by simp [ry, q]]
    go_enter Try.func25, Try.ntmps25
    go_wp2_with fail
    refine wp_loop_rounds 4 ?_
    rw [rounds_succ]
    go_wp2_with fail
    refine (quarters_c k _).mono ?_
    rw [q]
    rintro e w1 ⟨rfl, rfl⟩
    go_wp2_with fail
    rw [rounds_succ]
    go_wp2_with fail
    refine (quarters_c k _).mono ?_
    rw [q]
    rintro e w1 ⟨rfl, rfl⟩
    go_wp2_with fail
    rw [rounds_succ]
    go_wp2_with fail
    refine (quarters_c k _).mono ?_
    rw [q]
    rintro e w1 ⟨rfl, rfl⟩
    go_wp2_with fail
    rw [rounds_succ]
    go_wp2_with fail
    refine (quarters_c k _).mono ?_
    rw [q]
    rintro e w1 ⟨rfl, rfl⟩
    go_wp2_with fail
    exact bodyPost_ret (v := arr2 (y) (-x)) (by simp [results, Try.results25, go_sem, arr2]) rfl ⟨rfl, by go_grown⟩
theorem inb_true {x : Int} (h : inb x = true) : -1048576 ≤ x ∧ x ≤ 1048576 := of_decide_eq_true h
theorem inb_small {x : Int} (h : inb x = true) : Small x := by have := inb_true h; exact ⟨by omega, by omega⟩
theorem win_true {x y : Int} (h : win x y = true) : inb x = true ∧ inb y = true := by simpa [win] using h
def px (x y k : Int) : Int := if win x y then rx x y k else 0
def py (x y k : Int) : Int := if win x y then ry x y k else 0
abbrev Ptuple (x y k : Int) : Value := .tuple #[.int .i64 (px x y k), .int .i64 (py x y k), .bool (win x y)]
theorem turnPoint_c (x y k : Int) (h1 : -9223372036854775808 ≤ k) (h2 : k ≤ 9223372036854775807) (w : World) : Calls Try.prog 9 #[.int .i64 x, .int .i64 y, .int .i64 k] w (Ret (Ptuple x y k) w) := by
  have W1 := within_c x y
  cases hw : win x y
  · unfold Ptuple px py
    rw [hw] at W1
    rw [hw]
    simp only [Bool.false_eq_true, if_false]
    clear hw
    go_enter Try.func9, Try.ntmps9
    go_wp2_with fail
    refine (W1 _).mono ?_
    rintro e w1 ⟨rfl, hk1⟩
    go_wp2_with fail
    refine bodyPost_ret (v := .tuple #[.int .i64 0, .int .i64 0, .bool false]) (by simp [results, Try.results9, go_sem]) rfl ⟨rfl, hk1⟩
  · obtain ⟨i1, i2⟩ := win_true hw
    obtain ⟨re, im, hm, r1, r2⟩ := turn_bits x y k (inb_small i1) (inb_small i2)
    obtain ⟨b1, b2⟩ := rot_bd k (inb_true i1) (inb_true i2)
    have hm := cmul_at _ _ _ _ _ _ hm
    have C := corner_c re im _ _ r1 r2 (by omega) (by omega)
    unfold Ptuple px py
    rw [hw] at W1
    rw [hw]
    simp only [if_true]
    unfold arr2 at *
    clear hw r1 r2 i1 i2 b1 b2
    go_enter Try.func9, Try.ntmps9
    go_wp2_with fail
    refine (W1 _).mono ?_
    rintro e w1 ⟨rfl, hk1⟩
    go_wp2_with fail
    refine (point_c x y _).mono ?_
    rintro e w2 ⟨rfl, hk2⟩
    go_wp2_with fail
    refine (power_c k h1 h2 _).mono ?_
    rintro e w3 ⟨rfl, hk3⟩
    go_wp2_with fail
    refine (C _).mono ?_
    rintro e w4 ⟨rfl, hk4⟩
    go_wp2_with fail
    go_quiet (fail)
    go_wp2_with fail
    refine bodyPost_ret (v := .tuple #[.int .i64 (rx x y k), .int .i64 (ry x y k), .bool true]) (by simp [results, Try.results9, go_sem]) rfl ⟨rfl, kept_trans (kept_trans hk1 (kept_trans hk2 (kept_trans hk3 hk4))) (kept_drewN (kept_alloc (kept_refl _) _) nq)⟩
theorem rPoint_c (x y k : Int) (w : World) : Calls Try.prog 10 #[.int .i64 x, .int .i64 y, .int .i64 k] w (Ret (Ptuple x y k) w) := by
  have W1 := rwithin_c x
  have W2 := rwithin_c y
  cases i1 : inb x
  · have hw : win x y = false := by simp [win, i1]
    unfold Ptuple px py
    rw [i1] at W1
    rw [hw]
    simp only [Bool.false_eq_true, if_false]
    clear hw i1
    go_enter Try.func10, Try.ntmps10
    go_wp2_with fail
    refine (W1 _).mono ?_
    rintro e w1 ⟨rfl, hk1⟩
    go_wp2_with fail
    refine bodyPost_ret (v := .tuple #[.int .i64 0, .int .i64 0, .bool false]) (by simp [results, Try.results10, go_sem]) rfl ⟨rfl, hk1⟩
  · cases i2 : inb y
    · have hw : win x y = false := by simp [win, i2]
      unfold Ptuple px py
      rw [i1] at W1
      rw [i2] at W2
      rw [hw]
      simp only [Bool.false_eq_true, if_false]
      clear hw i1 i2
      go_enter Try.func10, Try.ntmps10
      go_wp2_with fail
      refine (W1 _).mono ?_
      rintro e w1 ⟨rfl, hk1⟩
      go_wp2_with fail
      refine (W2 _).mono ?_
      rintro e w2 ⟨rfl, hk2⟩
      go_wp2_with fail
      refine bodyPost_ret (v := .tuple #[.int .i64 0, .int .i64 0, .bool false]) (by simp [results, Try.results10, go_sem]) rfl ⟨rfl, kept_trans hk1 hk2⟩
    · have hw : win x y = true := by simp [win, i1, i2]
      have C := rturn_c x y k (by have := inb_true i1; omega) (by have := inb_true i2; omega)
      unfold Ptuple px py
      rw [i1] at W1
      rw [i2] at W2
      rw [hw]
      simp only [if_true]
      unfold arr2 at *
      clear hw i1 i2
      go_enter Try.func10, Try.ntmps10
      go_wp2_with fail
      refine (W1 _).mono ?_
      rintro e w1 ⟨rfl, hk1⟩
      go_wp2_with fail
      refine (W2 _).mono ?_
      rintro e w2 ⟨rfl, hk2⟩
      go_wp2_with fail
      refine (C _).mono ?_
      rintro e w3 ⟨rfl, hk3⟩
      go_wp2_with fail
      go_quiet (fail)
      go_wp2_with fail
      refine bodyPost_ret (v := .tuple #[.int .i64 (rx x y k), .int .i64 (ry x y k), .bool true]) (by simp [results, Try.results10, go_sem]) rfl ⟨rfl, kept_trans (kept_trans hk1 (kept_trans hk2 hk3)) (kept_drewN (kept_alloc (kept_refl _) _) nq)⟩
end Go.Proofs.Ytkifafdbobhlpaa
