/-
  Layer 4's statements: the walks.
-/
import Derived.Test.YtdidojcmcldhpaaWConv8
namespace Go.Proofs.Ytdidojcmcldhpaa
open Go.RowKit BG
attribute [local go_sem ↓] Go.wp_at_zero Go.wp_at_succ
set_option linter.unusedVariables false

theorem u64_all {xs : List Int} (h : ∀ z ∈ xs, 0 ≤ z ∧ z ≤ 18446744073709551615) : U64 xs := by
  intro j
  unfold nth
  rw [List.getD_eq_getElem?_getD]
  by_cases hj : j < xs.length
  · rw [List.getElem?_eq_getElem hj]; exact h _ (List.getElem_mem _)
  · rw [List.getElem?_eq_none (by omega)]; exact ⟨Int.le_refl 0, by decide⟩
theorem sameL_refl (xs : List Int) : sameL xs xs = true := by simp [sameL]
def fewv (a b : Nat) : Bool := decide (a ≤ 300) && decide (b ≤ 300)
theorem few_c (A B : Option Addr) (ca cb a b : Nat) (ha : a ≤ 9223372036854775807) (hb : b ≤ 9223372036854775807) (w : World) : Calls Try.prog 15 #[.slice A a ca, .slice B b cb] w (Ret (.bool (fewv a b)) w) := by
  unfold fewv
  by_cases h1 : a ≤ 300
  · rw [decide_eq_true h1, Bool.true_and]
    by_cases h2 : b ≤ 300
    · rw [decide_eq_true h2]
      go_enter Try.func15, Try.ntmps15
      go_wp2_with fail
      go_ret
      exact ⟨by simp; omega, kept_refl _⟩
    · rw [decide_eq_false h2]
      go_enter Try.func15, Try.ntmps15
      go_wp2_with fail
      go_ret
      exact ⟨by simp; omega, kept_refl _⟩
  · rw [decide_eq_false h1, Bool.false_and]
    have h1' : decide ((a : Int) ≤ 300) = false := decide_eq_false (by omega)
    go_enter Try.func15, Try.ntmps15
    go_wp2_with fail
    go_ret
    exact ⟨by simp, kept_refl _⟩
theorem av_v : pval [1, 2] [3, 4, 5] = [3, 10, 13, 10] := by decide +kernel
theorem av_e : perr [1, 2] [3, 4, 5] = 0 := by decide +kernel
theorem av_cv : corrv [1, 2] [3, 4, 5] = [11, 14] := by decide +kernel
theorem av_ce : corrErr [1, 2] [3, 4, 5] = 0 := by decide +kernel
theorem av_be : perr [4294967296] [4294967296] = 40 := by decide +kernel
theorem av_bv : pval [4294967296] [4294967296] = [] := by decide +kernel
theorem av_le : perr (mk 4097 fun _ => 0) [1] = 41 := by
  rw [pval_err (by rw [mk_length]; decide) (by decide)]; unfold cerr; rw [mk_length, if_pos (by decide)]
theorem av_5 : szOk 5 = true ∧ szv 5 = 8 := ⟨by decide, by decide +kernel⟩
theorem av_0 : szOk 0 = false ∧ szv 0 = 0 := ⟨by decide, by decide +kernel⟩
theorem av_g : greatest [2, 7, 3] = 7 := by decide +kernel
theorem u64_zeros (n : Nat) : U64 (mk n fun _ => 0) := u64_all fun z hz => by
  unfold mk at hz
  rw [List.mem_map] at hz
  obtain ⟨_, _, rfl⟩ := hz
  decide
set_option maxRecDepth 100000 in
set_option maxHeartbeats 4000000 in
theorem alive04_c (w : World) : Calls Try.prog 10 #[] w (Ret (.bool true) w) := by
  obtain ⟨i1, hif1, hy0, hy1, hy2⟩ := info_parts info_u64
  have u12 : U64 [1, 2] := u64_all (by decide)
  have u345 : U64 [3, 4, 5] := u64_all (by decide)
  have ub : U64 [4294967296] := u64_all (by decide)
  have u1 : U64 [1] := u64_all (by decide)
  have u273 : U64 [2, 7, 3] := u64_all (by decide)
  have S1 := size_c 5
  have S2 := size_c 0
  rw [av_5.1, av_5.2] at S1
  rw [av_0.1, av_0.2] at S2
  go_enter Try.func10, Try.ntmps10
  have C := school_c (some ⟨w.heap.size, 0, none⟩) (some ⟨w.heap.size + 1, 0, none⟩) 2 3 [1, 2] [3, 4, 5] u12 u345 (by decide) (by decide) _ (blk_rd (blk_alloc (blk_new w (.cells #[.int .u64 1, .int .u64 2] 26)) _) (by decide)) (blk_rd (blk_new1 w _ (.cells #[.int .u64 3, .int .u64 4, .int .u64 5] 26)) (by decide))
  rw [av_v, av_e] at C
  go_wp2_with fail
  refine C.mono ?_
  rintro e w1 ⟨A1, c1, rfl, r1, hk1, _, _⟩
  clear C
  have hkk : Kept w w1 := kept_trans (kept_alloc (kept_alloc (kept_refl w) _) _) hk1
  have hk := hkk
  clear hkk hk1
  have C := fast_c (some ⟨w1.heap.size, 0, none⟩) (some ⟨w1.heap.size + 1, 0, none⟩) 2 3 [1, 2] [3, 4, 5] u12 u345 (by decide) (by decide) _ (blk_rd (blk_alloc (blk_new w1 (.cells #[.int .u64 1, .int .u64 2] 26)) _) (by decide)) (blk_rd (blk_new1 w1 _ (.cells #[.int .u64 3, .int .u64 4, .int .u64 5] 26)) (by decide))
  rw [av_v, av_e] at C
  go_wp2_with fail
  refine C.mono ?_
  rintro e w2 ⟨A2, c2, rfl, r2, hk2, _, _⟩
  clear C
  have hkk : Kept w1 w2 := kept_trans (kept_alloc (kept_alloc (kept_refl w1) _) _) hk2
  replace r1 := r1.kept hkk
  replace hk := kept_trans hk hkk
  clear hkk hk2
  have C := correlate_c (some ⟨w2.heap.size, 0, none⟩) (some ⟨w2.heap.size + 1, 0, none⟩) 2 3 [1, 2] [3, 4, 5] u12 u345 (by decide) (by decide) _ (blk_rd (blk_alloc (blk_new w2 (.cells #[.int .u64 1, .int .u64 2] 26)) _) (by decide)) (blk_rd (blk_new1 w2 _ (.cells #[.int .u64 3, .int .u64 4, .int .u64 5] 26)) (by decide))
  rw [av_cv, av_ce] at C
  go_wp2_with fail
  refine C.mono ?_
  rintro e w3 ⟨A3, c3, rfl, r3, hk3, _, _⟩
  clear C
  have hkk : Kept w2 w3 := kept_trans (kept_alloc (kept_alloc (kept_refl w2) _) _) hk3
  replace r1 := r1.kept hkk
  replace r2 := r2.kept hkk
  replace hk := kept_trans hk hkk
  clear hkk hk3
  have C := fast_c (some ⟨w3.heap.size, 0, none⟩) (some ⟨w3.heap.size + 1, 0, none⟩) 1 1 [4294967296] [4294967296] ub ub (by decide) (by decide) _ (blk_rd (blk_alloc (blk_new w3 (.cells #[.int .u64 4294967296] 26)) _) (by decide)) (blk_rd (blk_new1 w3 _ (.cells #[.int .u64 4294967296] 26)) (by decide))
  rw [av_bv, av_be] at C
  go_wp2_with fail
  refine C.mono ?_
  rintro e w4 ⟨A4, c4, rfl, r4, hk4, _, _⟩
  clear C
  have hkk : Kept w3 w4 := kept_trans (kept_alloc (kept_alloc (kept_refl w3) _) _) hk4
  replace r1 := r1.kept hkk
  replace r2 := r2.kept hkk
  replace r3 := r3.kept hkk
  replace hk := kept_trans hk hkk
  clear hkk hk4 r4
  go_wp2_with (refine wpList_make_full _ rfl (.const (.int .i64 4097)) (.const (.int .i64 4097)) 22 rfl w4.heap.size 26 i1 (.int .u64 0) 1 Try.underlying22 hif1 hy0 hy1 .i64 .i64 _ _ 4097 rfl rfl (by simp) (by simp) ?b2 ?b3 ?b4 ?_)
  case b2 => rw [hy2]; omega
  case b3 => unfold maxLen; omega
  case b4 => exact Nat.le_refl _
  intro w5 hown5 hgrow
  have K5 : Kept w4 w5 := (kept_refl w4).grown hgrow (Nat.le_refl _) (fun k h => by cases h)
  rw [toList_madeCells_one, ← mk_zero'] at hown5
  have rz := rowRd hown5 (mk_length _ _)
  clear hown5 hgrow
  have C := school_c (some ⟨w4.heap.size, 0, none⟩) (some ⟨w5.heap.size, 0, none⟩) 4097 1 (mk 4097 fun _ => 0) [1] (u64_zeros _) u1 (by rw [mk_length]; decide) (by decide) _ (rz.kept (kept_alloc (kept_refl _) (.cells #[.int .u64 1] 26))) (blk_rd (blk_new w5 (.cells #[.int .u64 1] 26)) (by decide))
  rw [av_le, mk_length] at C
  generalize mk 4097 (fun _ => (0 : Int)) = zs at *
  generalize pval zs [1] = pz at *
  go_wp2_with fail
  refine C.mono ?_
  rintro e w6 ⟨A6, c6, rfl, r6, hk6, _, _⟩
  clear C r6 rz
  have hkk : Kept w4 w6 := kept_trans K5 (kept_trans (kept_alloc (kept_refl w5) _) hk6)
  go_wp2_with fail
  refine (S1 _).mono ?_
  rintro e w7 ⟨rfl, hk7⟩
  go_wp2_with fail
  refine (S2 _).mono ?_
  rintro e w8 ⟨rfl, hk8⟩
  replace hkk := kept_trans hkk (kept_trans hk7 hk8)
  replace r1 := r1.kept hkk
  replace r2 := r2.kept hkk
  replace r3 := r3.kept hkk
  replace hk := kept_trans hk hkk
  clear hkk hk6 hk7 hk8 K5 S1 S2 u12 u345 ub u1
  have S := same_c A1 (some ⟨w8.heap.size, 0, none⟩) c1 4 [3, 10, 13, 10] [3, 10, 13, 10] _ (r1.kept (kept_alloc (kept_refl _) (.cells #[.int .u64 3, .int .u64 10, .int .u64 13, .int .u64 10] 26))) (blk_rd (blk_new w8 (.cells #[.int .u64 3, .int .u64 10, .int .u64 13, .int .u64 10] 26)) (by decide))
  rw [sameL_refl] at S
  go_wp2_with fail
  refine S.mono ?_
  rintro e w9 ⟨rfl, hk9⟩
  clear S
  have hkk : Kept w8 w9 := kept_trans (kept_alloc (kept_refl _) _) hk9
  replace r1 := r1.kept hkk
  replace r2 := r2.kept hkk
  replace r3 := r3.kept hkk
  replace hk := kept_trans hk hkk
  clear hkk hk9
  have S := same_c A2 A1 c2 c1 [3, 10, 13, 10] [3, 10, 13, 10] w9 r2 r1
  rw [sameL_refl] at S
  go_wp2_with fail
  refine S.mono ?_
  rintro e w10 ⟨rfl, hk10⟩
  clear S r1 r2
  replace r3 := r3.kept hk10
  replace hk := kept_trans hk hk10
  clear hk10
  have S := same_c A3 (some ⟨w10.heap.size, 0, none⟩) c3 2 [11, 14] [11, 14] _ (r3.kept (kept_alloc (kept_refl _) (.cells #[.int .u64 11, .int .u64 14] 26))) (blk_rd (blk_new w10 (.cells #[.int .u64 11, .int .u64 14] 26)) (by decide))
  rw [sameL_refl] at S
  go_wp2_with fail
  refine S.mono ?_
  rintro e w11 ⟨rfl, hk11⟩
  clear S r3
  replace hk := kept_trans hk (kept_trans (kept_alloc (kept_refl _) _) hk11)
  clear hk11
  have G := greatest_c (some ⟨w11.heap.size, 0, none⟩) 3 [2, 7, 3] u273 _ (blk_rd (blk_new w11 (.cells #[.int .u64 2, .int .u64 7, .int .u64 3] 26)) (by decide))
  rw [av_g] at G
  go_wp2_with fail
  refine G.mono ?_
  rintro e w12 ⟨rfl, hk12⟩
  clear G
  go_wp2_with fail
  go_ret
  exact ⟨rfl, kept_trans hk (kept_trans (kept_alloc (kept_refl _) _) hk12)⟩
set_option maxHeartbeats 2000000 in
theorem convSizes_w (n : Int) (A : Option Addr) (cap : Nat) (xs : List Int) (hu : U64 xs) (w : World) (hr : Rd .u64 w A xs) : Calls Try.prog 3 #[.int .i64 n, .slice A xs.length cap] w (Ret (.bool true) w) := by
  have hm := hr.1
  by_cases h : xs.length ≤ 5000
  · have S1 := size_c n
    have S2 := rsize_c n
    have G1 := fun w1 r => greatest_c A cap xs hu w1 r
    have G2 := fun w1 r => rgreatest_c A cap xs hu w1 r
    generalize szv n = sv at *
    generalize szOk n = so at *
    generalize greatest xs = g at *
    go_enter Try.func3, Try.ntmps3
    go_wp2_with fail
    refine (S1 _).mono ?_
    rintro e w1 ⟨rfl, hk1⟩
    go_wp2_with fail
    refine (S2 _).mono ?_
    rintro e w2 ⟨rfl, hk2⟩
    go_wp2_with fail
    refine (alive04_c _).mono ?_
    rintro e w3 ⟨rfl, hk3⟩
    have hk := kept_trans hk1 (kept_trans hk2 hk3)
    clear S1 S2 hk1 hk2 hk3
    have G1 := G1 w3 (hr.kept hk)
    go_wp2_with fail
    refine G1.mono ?_
    rintro e w4 ⟨rfl, hk4⟩
    clear G1
    have G2 := G2 w4 (hr.kept (kept_trans hk hk4))
    go_wp2_with fail
    refine G2.mono ?_
    rintro e w5 ⟨rfl, hk5⟩
    clear G2
    go_wp2_with fail
    go_ret
    exact ⟨rfl, kept_trans hk (kept_trans hk4 hk5)⟩
  · have h' : 5000 < xs.length := by omega
    clear h
    go_enter Try.func3, Try.ntmps3
    go_wp2_with fail
    refine (alive04_c _).mono ?_
    rintro e w1 ⟨rfl, hk1⟩
    go_wp2_with fail
    go_ret
    exact ⟨rfl, hk1⟩
set_option maxHeartbeats 2000000 in
theorem convSchool_w (A B : Option Addr) (ca cb : Nat) (xs ys : List Int) (hu : U64 xs) (hv : U64 ys) (w : World) (hr : Rd .u64 w A xs) (hs : Rd .u64 w B ys) : Calls Try.prog 4 #[.slice A xs.length ca, .slice B ys.length cb] w (Ret (.bool true) w) := by
  have hm := hr.1
  have hm2 := hs.1
  have FW := few_c A B ca cb xs.length ys.length hm hm2
  by_cases h : xs.length ≤ 300 ∧ ys.length ≤ 300
  · rw [show fewv xs.length ys.length = true by unfold fewv; simp [h.1, h.2]] at FW
    have P1 := fun w1 a b => school_c A B ca cb xs ys hu hv (by omega) (by omega) w1 a b
    have P2 := fun w1 a b => product_c A B ca cb xs ys hu hv (by omega) (by omega) w1 a b
    generalize pval xs ys = pv at *
    generalize perr xs ys = pe at *
    go_enter Try.func4, Try.ntmps4
    go_wp2_with fail
    refine (FW _).mono ?_
    rintro e w0 ⟨rfl, hk0⟩
    have P1 := P1 w0 (hr.kept hk0) (hs.kept hk0)
    go_wp2_with fail
    refine P1.mono ?_
    rintro e w1 ⟨A1, c1, rfl, r1, hk1, _, _⟩
    clear P1
    have hk := kept_trans hk0 hk1
    have P2 := P2 w1 (hr.kept hk) (hs.kept hk)
    go_wp2_with fail
    refine P2.mono ?_
    rintro e w2 ⟨A2, c2, rfl, r2, hk2, _, _⟩
    clear P2
    replace r1 := r1.kept hk2
    go_wp2_with fail
    refine (alive04_c _).mono ?_
    rintro e w3 ⟨rfl, hk3⟩
    have S := same_c A1 A2 c1 c2 pv pv w3 (r1.kept hk3) (r2.kept hk3)
    rw [sameL_refl] at S
    go_wp2_with fail
    refine S.mono ?_
    rintro e w4 ⟨rfl, hk4⟩
    clear S
    go_wp2_with fail
    go_ret
    exact ⟨rfl, kept_trans hk (kept_trans hk2 (kept_trans hk3 hk4))⟩
  · rw [show fewv xs.length ys.length = false by unfold fewv; simp; omega] at FW
    clear h
    go_enter Try.func4, Try.ntmps4
    go_wp2_with fail
    refine (FW _).mono ?_
    rintro e w0 ⟨rfl, hk0⟩
    go_wp2_with fail
    refine (alive04_c _).mono ?_
    rintro e w1 ⟨rfl, hk1⟩
    go_wp2_with fail
    go_ret
    exact ⟨rfl, kept_trans hk0 hk1⟩
set_option maxHeartbeats 2000000 in
theorem convFast_w (A B : Option Addr) (ca cb : Nat) (xs ys : List Int) (hu : U64 xs) (hv : U64 ys) (w : World) (hr : Rd .u64 w A xs) (hs : Rd .u64 w B ys) : Calls Try.prog 5 #[.slice A xs.length ca, .slice B ys.length cb] w (Ret (.bool true) w) := by
  have hm := hr.1
  have hm2 := hs.1
  have FW := few_c A B ca cb xs.length ys.length hm hm2
  by_cases h : xs.length ≤ 300 ∧ ys.length ≤ 300
  · rw [show fewv xs.length ys.length = true by unfold fewv; simp [h.1, h.2]] at FW
    have P1 := fun w1 a b => fast_c A B ca cb xs ys hu hv (by omega) (by omega) w1 a b
    have P2 := fun w1 a b => product_c A B ca cb xs ys hu hv (by omega) (by omega) w1 a b
    generalize pval xs ys = pv at *
    generalize perr xs ys = pe at *
    go_enter Try.func5, Try.ntmps5
    go_wp2_with fail
    refine (FW _).mono ?_
    rintro e w0 ⟨rfl, hk0⟩
    have P1 := P1 w0 (hr.kept hk0) (hs.kept hk0)
    go_wp2_with fail
    refine P1.mono ?_
    rintro e w1 ⟨A1, c1, rfl, r1, hk1, _, _⟩
    clear P1
    have hk := kept_trans hk0 hk1
    have P2 := P2 w1 (hr.kept hk) (hs.kept hk)
    go_wp2_with fail
    refine P2.mono ?_
    rintro e w2 ⟨A2, c2, rfl, r2, hk2, _, _⟩
    clear P2
    replace r1 := r1.kept hk2
    go_wp2_with fail
    refine (alive04_c _).mono ?_
    rintro e w3 ⟨rfl, hk3⟩
    have S := same_c A1 A2 c1 c2 pv pv w3 (r1.kept hk3) (r2.kept hk3)
    rw [sameL_refl] at S
    go_wp2_with fail
    refine S.mono ?_
    rintro e w4 ⟨rfl, hk4⟩
    clear S
    go_wp2_with fail
    go_ret
    exact ⟨rfl, kept_trans hk (kept_trans hk2 (kept_trans hk3 hk4))⟩
  · rw [show fewv xs.length ys.length = false by unfold fewv; simp; omega] at FW
    clear h
    go_enter Try.func5, Try.ntmps5
    go_wp2_with fail
    refine (FW _).mono ?_
    rintro e w0 ⟨rfl, hk0⟩
    go_wp2_with fail
    refine (alive04_c _).mono ?_
    rintro e w1 ⟨rfl, hk1⟩
    go_wp2_with fail
    go_ret
    exact ⟨rfl, kept_trans hk0 hk1⟩
set_option maxHeartbeats 2000000 in
theorem convCorrelates_w (A B : Option Addr) (ca cb : Nat) (xs ys : List Int) (hu : U64 xs) (hv : U64 ys) (w : World) (hr : Rd .u64 w A xs) (hs : Rd .u64 w B ys) : Calls Try.prog 6 #[.slice A xs.length ca, .slice B ys.length cb] w (Ret (.bool true) w) := by
  have hm := hr.1
  have hm2 := hs.1
  have FW := few_c A B ca cb xs.length ys.length hm hm2
  by_cases h : xs.length ≤ 300 ∧ ys.length ≤ 300
  · rw [show fewv xs.length ys.length = true by unfold fewv; simp [h.1, h.2]] at FW
    have P1 := fun w1 a b => correlate_c A B ca cb xs ys hu hv (by omega) (by omega) w1 a b
    have P2 := fun w1 a b => rcorrelate_c A B ca cb xs ys hu hv (by omega) (by omega) w1 a b
    generalize corrv xs ys = pv at *
    generalize corrErr xs ys = pe at *
    go_enter Try.func6, Try.ntmps6
    go_wp2_with fail
    refine (FW _).mono ?_
    rintro e w0 ⟨rfl, hk0⟩
    have P1 := P1 w0 (hr.kept hk0) (hs.kept hk0)
    go_wp2_with fail
    refine P1.mono ?_
    rintro e w1 ⟨A1, c1, rfl, r1, hk1, _, _⟩
    clear P1
    have hk := kept_trans hk0 hk1
    have P2 := P2 w1 (hr.kept hk) (hs.kept hk)
    go_wp2_with fail
    refine P2.mono ?_
    rintro e w2 ⟨A2, c2, rfl, r2, hk2, _, _⟩
    clear P2
    replace r1 := r1.kept hk2
    go_wp2_with fail
    refine (alive04_c _).mono ?_
    rintro e w3 ⟨rfl, hk3⟩
    have S := same_c A1 A2 c1 c2 pv pv w3 (r1.kept hk3) (r2.kept hk3)
    rw [sameL_refl] at S
    go_wp2_with fail
    refine S.mono ?_
    rintro e w4 ⟨rfl, hk4⟩
    clear S
    go_wp2_with fail
    go_ret
    exact ⟨rfl, kept_trans hk (kept_trans hk2 (kept_trans hk3 hk4))⟩
  · rw [show fewv xs.length ys.length = false by unfold fewv; simp; omega] at FW
    clear h
    go_enter Try.func6, Try.ntmps6
    go_wp2_with fail
    refine (FW _).mono ?_
    rintro e w0 ⟨rfl, hk0⟩
    go_wp2_with fail
    refine (alive04_c _).mono ?_
    rintro e w1 ⟨rfl, hk1⟩
    go_wp2_with fail
    go_ret
    exact ⟨rfl, kept_trans hk0 hk1⟩
end Go.Proofs.Ytdidojcmcldhpaa
