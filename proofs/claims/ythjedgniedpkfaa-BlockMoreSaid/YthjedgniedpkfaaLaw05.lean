/-
  Layer 5's statements: the walks.
-/
import Derived.Test.YthjedgniedpkfaaWBlk8
import Derived.Test.YthjedgniedpkfaaWConv8
import Derived.Laws.AppendOwnNone
namespace Go.Proofs.Ythjedgniedpkfaa
open Go.RowKit BG
attribute [local go_sem ↓] Go.wp_at_zero Go.wp_at_succ
set_option linter.unusedVariables false

theorem u64_all {xs : List Int} (h : ∀ z ∈ xs, 0 ≤ z ∧ z ≤ 18446744073709551615) : U64 xs := by
  intro j
  unfold nth
  rw [List.getD_eq_getElem?_getD]
  by_cases hj : j < xs.length
  · rw [List.getElem?_eq_getElem hj]; exact h _ (List.getElem_mem _)
  · rw [List.getElem?_eq_none (by omega)]; exact ⟨Int.le_refl 0, by decide⟩
theorem sameL_refl (xs : List Int) : sameL xs xs = true := by simp [sameL]
theorem correlate_c5 (A B : Option Addr) (ca cb : Nat) (ps ts : List Int) (size : Int) (hu : U64 ps) (hv : U64 ts) (hlx : ps.length ≤ 10000000000000) (hly : ts.length ≤ 1000000000000) (hcb : ts.length ≤ cb) (w : World) (hr : Rd .u64 w A ps) (hs : Rd .u64 w B ts) : Calls Try.prog 18 #[.slice A ps.length ca, .slice B ts.length cb, .int .i64 size] w (Ans3 (bval ps ts size) (bcnt ps ts size) (berrv ps ts size) w) := by
  by_cases h : bgood ps ts size
  · exact correlate_good A B ca cb ps ts size hu hv hlx hly hcb h w hr hs
  · exact correlate_bad A B ca cb ps ts size hu hv hlx (by omega) h w hr hs
def few5 (a b : Nat) : Bool := decide (a ≤ 300) && decide (b ≤ 2000)
theorem few5_c (A B : Option Addr) (ca cb a b : Nat) (ha : a ≤ 9223372036854775807) (hb : b ≤ 9223372036854775807) (w : World) : Calls Try.prog 10 #[.slice A a ca, .slice B b cb] w (Ret (.bool (few5 a b)) w) := by
  unfold few5
  by_cases h1 : a ≤ 300
  · rw [decide_eq_true h1, Bool.true_and]
    by_cases h2 : b ≤ 2000
    · rw [decide_eq_true h2]
      go_enter Try.func10, Try.ntmps10
      go_wp2_with fail
      go_ret
      exact ⟨by simp; omega, kept_refl _⟩
    · rw [decide_eq_false h2]
      go_enter Try.func10, Try.ntmps10
      go_wp2_with fail
      go_ret
      exact ⟨by simp; omega, kept_refl _⟩
  · rw [decide_eq_false h1, Bool.false_and]
    have h1' : decide ((a : Int) ≤ 300) = false := decide_eq_false (by omega)
    go_enter Try.func10, Try.ntmps10
    go_wp2_with fail
    go_ret
    exact ⟨by simp, kept_refl _⟩
theorem a5_v : bval [1, 2] [3, 4, 5] 2 = [11, 14] := by decide +kernel
theorem a5_n : bcnt [1, 2] [3, 4, 5] 2 = 15 := by decide +kernel
theorem a5_e : berrv [1, 2] [3, 4, 5] 2 = 0 := by decide +kernel
theorem a5_v1 : bval [1, 2] [3, 4, 5] 1 = [] := by decide +kernel
theorem a5_n1 : bcnt [1, 2] [3, 4, 5] 1 = 0 := by decide +kernel
theorem a5_e1 : berrv [1, 2] [3, 4, 5] 1 = 50 := by decide +kernel
theorem a5_v2 : bval [1099511627776] [1099511627776] 2 = [] := by decide +kernel
theorem a5_n2 : bcnt [1099511627776] [1099511627776] 2 = 0 := by decide +kernel
theorem a5_e2 : berrv [1099511627776] [1099511627776] 2 = 40 := by decide +kernel
theorem a5_k : berr 0 0 0 (greatest []) (greatest []) = 0 := by decide +kernel
theorem a5_c : countv 2 3 4 = 9 ∧ countv 2 3 1 = 0 ∧ fitv 3 2 = 0 ∧ fitv 1 1 = 1 := by decide +kernel
set_option maxRecDepth 100000 in
set_option maxHeartbeats 4000000 in
theorem alive05_c (w : World) : Calls Try.prog 11 #[] w (Ret (.bool true) w) := by
  have u12 : U64 [1, 2] := u64_all (by decide)
  have u345 : U64 [3, 4, 5] := u64_all (by decide)
  have ub : U64 [1099511627776] := u64_all (by decide)
  have K := check_c5 none none 0 0 [] [] 0 (u64_all (by decide)) (u64_all (by decide)) (by decide) (by decide)
  rw [List.length_nil] at K
  rw [show ((0 : Nat) : Int) = 0 from rfl, a5_k] at K
  have N1 := count_c 2 3 4
  have N2 := count_c 2 3 1
  have F1 := fit_c 3 2
  have F2 := fit_c 1 1
  rw [a5_c.1] at N1
  rw [a5_c.2.1] at N2
  rw [a5_c.2.2.1] at F1
  rw [a5_c.2.2.2] at F2
  go_enter Try.func11, Try.ntmps11
  have C := correlate_c5 (some ⟨w.heap.size, 0, none⟩) (some ⟨w.heap.size + 1, 0, none⟩) 2 3 [1, 2] [3, 4, 5] 2 u12 u345 (by decide) (by decide) (by decide) _ (blk_rd (blk_alloc (blk_new w (.cells #[.int .u64 1, .int .u64 2] 40)) _) (by decide)) (blk_rd (blk_new1 w _ (.cells #[.int .u64 3, .int .u64 4, .int .u64 5] 40)) (by decide))
  rw [a5_v, a5_n, a5_e] at C
  go_wp2_with fail
  refine C.mono ?_
  rintro e w1 ⟨A1, c1, rfl, r1, hk1, _, _⟩
  clear C
  have hkk : Kept w w1 := kept_trans (kept_alloc (kept_alloc (kept_refl w) _) _) hk1
  have hk := hkk
  clear hkk hk1
  have C := correlate_c5 (some ⟨w1.heap.size, 0, none⟩) (some ⟨w1.heap.size + 1, 0, none⟩) 2 3 [1, 2] [3, 4, 5] 1 u12 u345 (by decide) (by decide) (by decide) _ (blk_rd (blk_alloc (blk_new w1 (.cells #[.int .u64 1, .int .u64 2] 40)) _) (by decide)) (blk_rd (blk_new1 w1 _ (.cells #[.int .u64 3, .int .u64 4, .int .u64 5] 40)) (by decide))
  rw [a5_v1, a5_n1, a5_e1] at C
  go_wp2_with fail
  refine C.mono ?_
  rintro e w2 ⟨A2, c2, rfl, r2, hk2, _, _⟩
  clear C
  have hkk : Kept w1 w2 := kept_trans (kept_alloc (kept_alloc (kept_refl w1) _) _) hk2
  replace r1 := r1.kept hkk
  replace hk := kept_trans hk hkk
  clear hkk hk2 r2
  have C := correlate_c5 (some ⟨w2.heap.size, 0, none⟩) (some ⟨w2.heap.size + 1, 0, none⟩) 1 1 [1099511627776] [1099511627776] 2 ub ub (by decide) (by decide) (by decide) _ (blk_rd (blk_alloc (blk_new w2 (.cells #[.int .u64 1099511627776] 40)) _) (by decide)) (blk_rd (blk_new1 w2 _ (.cells #[.int .u64 1099511627776] 40)) (by decide))
  rw [a5_v2, a5_n2, a5_e2] at C
  go_wp2_with fail
  refine C.mono ?_
  rintro e w3 ⟨A3, c3, rfl, r3, hk3, _, _⟩
  clear C
  have hkk : Kept w2 w3 := kept_trans (kept_alloc (kept_alloc (kept_refl w2) _) _) hk3
  replace r1 := r1.kept hkk
  replace hk := kept_trans hk hkk
  clear hkk hk3 r3
  have S := same_c A1 (some ⟨w3.heap.size, 0, none⟩) c1 2 [11, 14] [11, 14] _ (r1.kept (kept_alloc (kept_refl _) (.cells #[.int .u64 11, .int .u64 14] 40))) (blk_rd (blk_new w3 (.cells #[.int .u64 11, .int .u64 14] 40)) (by decide))
  rw [sameL_refl] at S
  go_wp2_with fail
  refine S.mono ?_
  rintro e w4 ⟨rfl, hk4⟩
  clear S r1
  replace hk := kept_trans hk (kept_trans (kept_alloc (kept_refl _) _) hk4)
  clear hk4 u12 u345 ub
  have K := K w4 (Rd.nil _ _ _) (Rd.nil _ _ _)
  go_wp2_with fail
  refine K.mono ?_
  rintro e w5 ⟨rfl, hk5⟩
  clear K
  go_wp2_with fail
  refine (N1 _).mono ?_
  rintro e w6 ⟨rfl, hk6⟩
  clear N1
  go_wp2_with fail
  refine (N2 _).mono ?_
  rintro e w7 ⟨rfl, hk7⟩
  clear N2
  go_wp2_with fail
  refine (F1 _).mono ?_
  rintro e w8 ⟨rfl, hk8⟩
  clear F1
  go_wp2_with fail
  refine (F2 _).mono ?_
  rintro e w9 ⟨rfl, hk9⟩
  clear F2
  go_wp2_with fail
  go_ret
  exact ⟨rfl, kept_trans hk (kept_trans hk5 (kept_trans hk6 (kept_trans hk7 (kept_trans hk8 hk9))))⟩
set_option maxHeartbeats 2000000 in
theorem blockChecks_w (A B : Option Addr) (ca cb : Nat) (ps ts : List Int) (size : Int) (hu : U64 ps) (hv : U64 ts) (w : World) (hr : Rd .u64 w A ps) (hs : Rd .u64 w B ts) : Calls Try.prog 3 #[.slice A ps.length ca, .slice B ts.length cb, .int .i64 size] w (Ret (.bool true) w) := by
  have hm := hr.1
  have hm2 := hs.1
  have FW := few5_c A B ca cb ps.length ts.length hm hm2
  by_cases h : ps.length ≤ 300 ∧ ts.length ≤ 2000
  · rw [show few5 ps.length ts.length = true by unfold few5; simp [h.1, h.2]] at FW
    have P1 := fun w1 a b => check_c5 A B ca cb ps ts size hu hv (by omega) (by omega) w1 a b
    have P2 := fun w1 a b => rcheck_c5 A B ca cb ps ts size hu hv (by omega) (by omega) w1 a b
    generalize berr ps.length ts.length size (greatest ps) (greatest ts) = pe at *
    go_enter Try.func3, Try.ntmps3
    go_wp2_with fail
    refine (FW _).mono ?_
    rintro e w0 ⟨rfl, hk0⟩
    go_wp2_with fail
    refine (alive05_c _).mono ?_
    rintro e w1 ⟨rfl, hk1⟩
    have hk := kept_trans hk0 hk1
    have P1 := P1 w1 (hr.kept hk) (hs.kept hk)
    go_wp2_with fail
    refine P1.mono ?_
    rintro e w2 ⟨rfl, hk2⟩
    clear P1
    replace hk := kept_trans hk hk2
    have P2 := P2 w2 (hr.kept hk) (hs.kept hk)
    go_wp2_with fail
    refine P2.mono ?_
    rintro e w3 ⟨rfl, hk3⟩
    clear P2
    go_wp2_with fail
    go_ret
    exact ⟨rfl, kept_trans hk hk3⟩
  · rw [show few5 ps.length ts.length = false by unfold few5; simp; omega] at FW
    clear h
    go_enter Try.func3, Try.ntmps3
    go_wp2_with fail
    refine (FW _).mono ?_
    rintro e w0 ⟨rfl, hk0⟩
    go_wp2_with fail
    refine (alive05_c _).mono ?_
    rintro e w1 ⟨rfl, hk1⟩
    go_wp2_with fail
    go_ret
    exact ⟨rfl, kept_trans hk0 hk1⟩
theorem countv_mono {m n size : Int} : countv m n size ≤ countv m (n + 1) size := by
  unfold countv
  by_cases h : slb m (min n 1099511627776) = true ∧ szb m size = true
  · obtain ⟨h1, h2⟩ := h
    have hs1 : 1 ≤ m ∧ m ≤ min n 1099511627776 := of_decide_eq_true h1
    obtain ⟨_, _, h3⟩ := szb_bd h2
    have hs2 : slb m (min (n + 1) 1099511627776) = true := decide_eq_true (by omega)
    rw [if_pos ⟨h1, h2⟩, if_pos ⟨hs2, h2⟩]
    have := Int.ediv_le_ediv (show 0 < size - m + 1 by omega) (show min n 1099511627776 - m ≤ min (n + 1) 1099511627776 - m by omega)
    omega
  · rw [if_neg h]
    exact (countv_bd m (n + 1) size).1
set_option maxHeartbeats 2000000 in
theorem blockCounts_w (m n size : Int) (hn : -9223372036854775808 ≤ n ∧ n ≤ 9223372036854775807) (w : World) : Calls Try.prog 4 #[.int .i64 m, .int .i64 n, .int .i64 size] w (Ret (.bool true) w) := by
  have N1 := count_c m n size
  have N2 := rcount_c m n size
  have hb := (countv_bd m n size).1
  by_cases h : 1125899906842624 < n
  · generalize countv m n size = c at *
    go_enter Try.func4, Try.ntmps4
    go_wp2_with fail
    refine (N1 _).mono ?_
    rintro e w1 ⟨rfl, hk1⟩
    go_wp2_with fail
    refine (alive05_c _).mono ?_
    rintro e w2 ⟨rfl, hk2⟩
    go_wp2_with fail
    refine (N2 _).mono ?_
    rintro e w3 ⟨rfl, hk3⟩
    go_wp2_with fail
    go_ret
    exact ⟨rfl, kept_trans hk1 (kept_trans hk2 hk3)⟩
  · have N3 := count_c m (n + 1) size
    have hmo := countv_mono (m := m) (n := n) (size := size)
    generalize countv m (n + 1) size = c2 at *
    generalize countv m n size = c at *
    go_enter Try.func4, Try.ntmps4
    go_wp2_with fail
    refine (N1 _).mono ?_
    rintro e w1 ⟨rfl, hk1⟩
    go_wp2_with fail
    refine (alive05_c _).mono ?_
    rintro e w2 ⟨rfl, hk2⟩
    go_wp2_with fail
    refine (N2 _).mono ?_
    rintro e w3 ⟨rfl, hk3⟩
    go_wp2_with fail
    refine (N3 _).mono ?_
    rintro e w4 ⟨rfl, hk4⟩
    go_wp2_with fail
    go_ret
    exact ⟨rfl, kept_trans hk1 (kept_trans hk2 (kept_trans hk3 hk4))⟩
theorem costv_pos {m n : Int} {l : Nat} (h : 0 < costv m n l) : 0 < countv m n ((2 ^ l : Nat) : Int) := by
  have h0 := (countv_bd m n ((2 ^ l : Nat) : Int)).1
  rcases Int.lt_or_eq_of_le h0 with h1 | h1
  · exact h1
  · unfold costv at h; rw [← h1, Int.zero_mul, Int.zero_mul] at h; exact absurd h (by decide)
theorem fitT_count (m n : Int) : ∀ l, (fitT m n l).1 ≠ 0 → 0 < countv m n (fitT m n l).1 := by
  intro l
  induction l with
  | zero => intro h; exact absurd rfl h
  | succ l ih =>
    by_cases h : 0 < costv m n l ∧ ((fitT m n l).1 = 0 ∨ costv m n l < (fitT m n l).2)
    · rw [fitT_yes h.1 h.2]; intro _; exact costv_pos h.1
    · rw [fitT_no h]; exact ih
theorem fitT_none (m n : Int) : ∀ l, (∀ j, j < l → ¬ 0 < costv m n j) → (fitT m n l).1 = 0 := by
  intro l
  induction l with
  | zero => intro _; rfl
  | succ l ih =>
    intro h
    rw [fitT_no fun hh => h l (Nat.lt_succ_self l) hh.1]
    exact ih fun j hj => h j (by omega)
theorem fitT_some (m n : Int) {j : Nat} (hc : 0 < costv m n j) : ∀ l, j < l → l ≤ 13 → (fitT m n l).1 ≠ 0 := by
  intro l
  induction l with
  | zero => intro h _; exact absurd h (Nat.not_lt_zero j)
  | succ l ih =>
    intro h hl
    by_cases h2 : 0 < costv m n l ∧ ((fitT m n l).1 = 0 ∨ costv m n l < (fitT m n l).2)
    · rw [fitT_yes h2.1 h2.2]
      have := Nat.two_pow_pos l
      show ((2 ^ l : Nat) : Int) ≠ 0
      omega
    · rw [fitT_no h2]
      by_cases hj : j = l
      · subst hj
        intro h0
        exact h2 ⟨hc, .inl h0⟩
      · exact ih (by omega) (by omega)
theorem has_pow {l : Nat} (hl : l ≤ 12) : hasLog ((2 ^ l : Nat) : Int) = true := by
  have : ∀ l, l < 13 → hasLog ((2 ^ l : Nat) : Int) = true := by decide +kernel
  exact this l (by omega)
theorem costv_at {m n : Int} (h1 : 1 ≤ m) (h2 : m ≤ n) (h3 : m ≤ 4096) : 0 < costv m n 12 := by
  have hsz : szb m ((2 ^ 12 : Nat) : Int) = true := by unfold szb; rw [has_pow (by decide)]; exact decide_eq_true h3
  have hsl : slb m (min n 1099511627776) = true := decide_eq_true (by omega)
  unfold costv countv
  rw [if_pos ⟨hsl, hsz⟩]
  have hd : 0 ≤ (min n 1099511627776 - m) / (((2 ^ 12 : Nat) : Int) - m + 1) := Int.ediv_nonneg (by omega) (by omega)
  have : 0 < 3 + 6 * ((min n 1099511627776 - m) / (((2 ^ 12 : Nat) : Int) - m + 1) + 1) := by omega
  exact Int.mul_pos (Int.mul_pos this (by decide)) (by decide)
theorem fitv_zero (m n : Int) : fitv m n = 0 ↔ m < 1 ∨ n < m ∨ 4096 < m := by
  constructor
  · intro h
    by_cases h2 : m < 1 ∨ n < m ∨ 4096 < m
    · exact h2
    · exact absurd h (fitT_some m n (costv_at (by omega) (by omega) (by omega)) 13 (by decide) (by decide))
  · intro h
    refine fitT_none m n 13 fun j hj hc => ?_
    have hp := costv_pos hc
    unfold countv at hp
    split at hp
    · rename_i hh
      have hs1 : 1 ≤ m ∧ m ≤ min n 1099511627776 := of_decide_eq_true hh.1
      obtain ⟨_, h4, h3⟩ := szb_bd hh.2
      omega
    · exact absurd hp (by decide)
theorem fitv_count {m n : Int} (h : fitv m n ≠ 0) : 0 < countv m n (fitv m n) := fitT_count m n 13 h
set_option maxHeartbeats 2000000 in
theorem blockFits_w (m n : Int) (w : World) : Calls Try.prog 5 #[.int .i64 m, .int .i64 n] w (Ret (.bool true) w) := by
  have F1 := fit_c m n
  have F2 := rfit_c m n
  have N := count_c m n (fitv m n)
  have hz := fitv_zero m n
  have hp := fitv_count (m := m) (n := n)
  generalize fitv m n = f at *
  generalize countv m n f = c at *
  by_cases h1 : m < 1
  · obtain rfl : f = 0 := hz.2 (.inl h1)
    clear N hz hp
    go_enter Try.func5, Try.ntmps5
    go_wp2_with fail
    refine (F1 _).mono ?_
    rintro e w1 ⟨rfl, hk1⟩
    go_wp2_with fail
    refine (alive05_c _).mono ?_
    rintro e w2 ⟨rfl, hk2⟩
    go_wp2_with fail
    refine (F2 _).mono ?_
    rintro e w3 ⟨rfl, hk3⟩
    go_wp2_with fail
    go_ret
    exact ⟨rfl, kept_trans hk1 (kept_trans hk2 hk3)⟩
  · by_cases h2 : n < m
    · obtain rfl : f = 0 := hz.2 (.inr (.inl h2))
      clear N hz hp
      go_enter Try.func5, Try.ntmps5
      go_wp2_with fail
      refine (F1 _).mono ?_
      rintro e w1 ⟨rfl, hk1⟩
      go_wp2_with fail
      refine (alive05_c _).mono ?_
      rintro e w2 ⟨rfl, hk2⟩
      go_wp2_with fail
      refine (F2 _).mono ?_
      rintro e w3 ⟨rfl, hk3⟩
      go_wp2_with fail
      go_ret
      exact ⟨rfl, kept_trans hk1 (kept_trans hk2 hk3)⟩
    · by_cases h3 : 4096 < m
      · obtain rfl : f = 0 := hz.2 (.inr (.inr h3))
        clear N hz hp
        go_enter Try.func5, Try.ntmps5
        go_wp2_with fail
        refine (F1 _).mono ?_
        rintro e w1 ⟨rfl, hk1⟩
        go_wp2_with fail
        refine (alive05_c _).mono ?_
        rintro e w2 ⟨rfl, hk2⟩
        go_wp2_with fail
        refine (F2 _).mono ?_
        rintro e w3 ⟨rfl, hk3⟩
        go_wp2_with fail
        go_ret
        exact ⟨rfl, kept_trans hk1 (kept_trans hk2 hk3)⟩
      · have hf : f ≠ 0 := fun h => by have := hz.1 h; omega
        have hc := hp hf
        have hfb : (f == 0) = false := beq_eq_false_iff_ne.2 hf
        clear hz hp
        go_enter Try.func5, Try.ntmps5
        go_wp2_with fail
        refine (F1 _).mono ?_
        rintro e w1 ⟨rfl, hk1⟩
        go_wp2_with fail
        refine (alive05_c _).mono ?_
        rintro e w2 ⟨rfl, hk2⟩
        go_wp2_with fail
        refine (F2 _).mono ?_
        rintro e w3 ⟨rfl, hk3⟩
        go_wp2_with fail
        refine (N _).mono ?_
        rintro e w4 ⟨rfl, hk4⟩
        go_wp2_with fail
        go_ret
        exact ⟨by simp; omega, kept_trans hk1 (kept_trans hk2 (kept_trans hk3 hk4))⟩
end Go.Proofs.Ythjedgniedpkfaa
