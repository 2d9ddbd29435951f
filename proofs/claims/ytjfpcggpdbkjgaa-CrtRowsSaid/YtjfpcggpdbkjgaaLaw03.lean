/-
  Layer 3's statements: the walks.
-/
import Derived.Test.YtjfpcggpdbkjgaaWRows
import Derived.Test.YtjfpcggpdbkjgaaWSame
import Derived.Test.YtjfpcggpdbkjgaaEq
import Derived.Test.YtjfpcggpdbkjgaaTail
namespace Go.Proofs.Ytjfpcggpdbkjgaa
open Go.RowKit BG
attribute [local go_sem ↓] Go.wp_at_zero Go.wp_at_succ
set_option linter.unusedVariables false

theorem eq3 (a b c d e f : Int) (w : World) : (Op.equalIn 10000 35 (.agg #[.int .u64 a, .int .u64 b, .int .u64 c]) (.agg #[.int .u64 d, .int .u64 e, .int .u64 f])).run Try.prog w = .ok ([a, b, c] == [d, e, f]) w :=
  run_equalIn_ints w .u64 9998 35 22 3 Try.underlying35 Try.underlying22 (fun w => by kernel_rfl) [a, b, c] [d, e, f] rfl rfl
theorem eq3_same (a b c : Int) (w : World) : (Op.equalIn 10000 35 (.agg #[.int .u64 a, .int .u64 b, .int .u64 c]) (.agg #[.int .u64 a, .int .u64 b, .int .u64 c])).run Try.prog w = .ok true w := by rw [eq3]; simp
theorem u64_five : U64 [5] := by
  intro j
  match j with
  | 0 => simp [nth]
  | j + 1 => simp [nth]
theorem u64_nil : U64 [] := by intro j; simp [nth]
theorem alive03_c (w : World) : Calls Try.prog 37 #[] w (Ret (.bool true) w) := by
  have g1 := of_bd 0 18446744073709551615
  have g2 := of_bd 1 18446744073709551615
  have g3 := of_bd 2 18446744073709551615
  have g4 := of_bd 0 7
  have g5 := of_bd 1 7
  have g6 := of_bd 2 7
  have j1 : joinv (of 0 18446744073709551615) (of 1 18446744073709551615) (of 2 18446744073709551615) = 18446744073709551615 := joinv_of (by decide) (by decide) (cong_of _ _) (cong_of _ _) (cong_of _ _)
  have f1 : fits (of 0 18446744073709551615) (of 1 18446744073709551615) (of 2 18446744073709551615) = true := fits_of (n := 18446744073709551615) (by decide) (by decide) (cong_of _ _) (cong_of _ _) (cong_of _ _)
  have j2 : joinv (of 0 7) (of 1 7) (of 2 7) = 7 := joinv_of (by decide) (by decide) (cong_of _ _) (cong_of _ _) (cong_of _ _)
  have f2 : fits (of 0 7) (of 1 7) (of 2 7) = true := fits_of (n := 7) (by decide) (by decide) (cong_of _ _) (cong_of _ _) (cong_of _ _)
  have f3 : fits 998244352 167772160 469762048 = false := fits_greatest
  have j3 : joinv 998244352 167772160 469762048 = 0 := by unfold joinv; rw [fits_greatest]; rfl
  go_enter Try.func37, Try.ntmps37
  go_wp2_with fail
  refine (parts_c 18446744073709551615 (by decide) _).mono ?_
  rintro e w1 ⟨rfl, hk1⟩
  go_wp2_with fail
  refine (join_c _ _ _ g1.1 g2.1 g3.1 _).mono ?_
  rintro e w2 ⟨rfl, hk2⟩
  go_wp2_with fail
  refine (parts_c 7 (by decide) _).mono ?_
  rintro e w3 ⟨rfl, hk3⟩
  go_wp2_with fail
  refine (join_c _ _ _ g4.1 g5.1 g6.1 _).mono ?_
  rintro e w4 ⟨rfl, hk4⟩
  go_wp2_with fail
  refine (join_c 998244352 167772160 469762048 (by decide) (by decide) (by decide) _).mono ?_
  rintro e w5 ⟨rfl, hk5⟩
  go_wp2_with fail
  refine (rows_at true [5] (some ⟨w5.heap.size, 0, none⟩) (some ⟨w5.heap.size + 1, 0, none⟩) (some ⟨w5.heap.size + 1 + 1, 0, none⟩) 1 1 1 [5] [5] [5] _ (blk_rd (blk_alloc (blk_alloc (blk_new w5 _) _) _) (by simp)) (blk_rd (blk_alloc (blk_new1 w5 _ _) _) (by simp)) (blk_rd (blk_new2 w5 _ _ _) (by simp)) u64_five u64_five u64_five (by simp) rowsOk_five rowsv_five).mono ?_
  rintro e w6 ⟨v, rfl, hown, hk6⟩
  obtain ⟨A, cA, rfl, hcA1, hcA2, hrd⟩ := hown.rd
  obtain ⟨ad, rfl, hc⟩ := hrd.at_ (j := 0) (by simp)
  clear hown hcA1
  go_wp2_with fail
  refine (rows_at false [] none none (some ⟨w6.heap.size, 0, none⟩) 0 0 1 [] [] [5] _ (Rd.nil _ _ _) (Rd.nil _ _ _) (blk_rd (blk_new w6 _) (by simp)) u64_nil u64_nil u64_five (by simp) rowsOk_nil rowsv_nil).mono ?_
  clear j1 f1 j2 f2 f3 j3 g1 g2 g3 g4 g5 g6
  rintro e w7 ⟨v7, rfl, hown7, hk7⟩
  replace hc := kept_cell hk7 (kept_cell (kept_alloc (kept_refl _) _) hc)
  replace hc : w7.cell? ad = some (.int .u64 5) := by rw [show ad.add 0 = ad from if_pos rfl] at hc; exact hc
  have HK := kept_trans (kept_trans hk1 (kept_trans hk2 (kept_trans hk3 (kept_trans hk4 hk5)))) (kept_trans (kept_alloc (kept_alloc (kept_alloc (kept_refl _) _) _) _) (kept_trans hk6 (kept_trans (kept_alloc (kept_refl _) _) hk7)))
  clear hk1 hk2 hk3 hk4 hk5 hk6 hk7 hrd hown7
  have q := eq3_same 3 0 0
  go_wp2_with fail
  refine (mixed_c 3 3 3 (by decide) (by decide) (by decide) _).mono ?_
  rintro e w8 ⟨rfl, hk8⟩
  replace hc := kept_cell hk8 hc
  rw [dg_three.1, dg_three.2.1, dg_three.2.2]
  unfold arr3
  go_wp2_with fail
  go_ret
  exact ⟨rfl, kept_trans HK hk8⟩

theorem crtJoins_w (a b c : Int) (ha : 0 ≤ a) (hb : 0 ≤ b) (hc : 0 ≤ c) (w : World) : Calls Try.prog 9 #[arr3 a b c] w (Ret (.bool true) w) := by
  have n0 : 0 ≤ joinv a b c := by unfold joinv; split; exact num_nonneg _ _ _; exact Int.le_refl 0
  cases hf : fits a b c
  · unfold arr3
    have hcz := blk_new w (.cells #[.int .u64 a, .int .u64 b, .int .u64 c] 35)
    have c0 : (w.alloc (.cells #[.int .u64 a, .int .u64 b, .int .u64 c] 35)).cell? ⟨w.heap.size, 0, none⟩ = some (.int .u64 a) := blk_cell hcz 0
    have c1 : (w.alloc (.cells #[.int .u64 a, .int .u64 b, .int .u64 c] 35)).cell? ⟨w.heap.size, 1, none⟩ = some (.int .u64 b) := blk_cell hcz 1
    have c2 : (w.alloc (.cells #[.int .u64 a, .int .u64 b, .int .u64 c] 35)).cell? ⟨w.heap.size, 2, none⟩ = some (.int .u64 c) := blk_cell hcz 2
    clear hcz
    go_enter Try.func9, Try.ntmps9
    go_wp2_with fail
    refine (join_c a b c ha hb hc _).mono ?_
    rintro e w1 ⟨rfl, hk1⟩
    replace c0 := kept_cell hk1 c0
    replace c1 := kept_cell hk1 c1
    replace c2 := kept_cell hk1 c2
    go_wp2_with fail
    refine (rjoin_c a b c ha hb hc _).mono ?_
    rintro e w2 ⟨rfl, hk2⟩
    replace c0 := kept_cell hk2 c0
    replace c1 := kept_cell hk2 c1
    replace c2 := kept_cell hk2 c2
    go_wp2_with fail
    refine (parts_c _ n0 _).mono ?_
    rintro e w3 ⟨rfl, hk3⟩
    replace c0 := kept_cell hk3 c0
    replace c1 := kept_cell hk3 c1
    replace c2 := kept_cell hk3 c2
    unfold arr3
    have hp := blk_new w3 (.cells #[.int .u64 (of 0 (joinv a b c)), .int .u64 (of 1 (joinv a b c)), .int .u64 (of 2 (joinv a b c))] 35)
    have hk3a := kept_alloc (kept_refl w3) (.cells #[.int .u64 (of 0 (joinv a b c)), .int .u64 (of 1 (joinv a b c)), .int .u64 (of 2 (joinv a b c))] 35)
    have p0 : _ = some (Value.int .u64 (of 0 (joinv a b c))) := blk_cell hp 0
    have p1 : _ = some (Value.int .u64 (of 1 (joinv a b c))) := blk_cell hp 1
    have p2 : _ = some (Value.int .u64 (of 2 (joinv a b c))) := blk_cell hp 2
    replace c0 := kept_cell hk3a c0
    replace c1 := kept_cell hk3a c1
    replace c2 := kept_cell hk3a c2
    go_wp2_with fail
    have ks_c0 := fun s => kw_cell s c0
    have ks_c1 := fun s => kw_cell s c1
    have ks_c2 := fun s => kw_cell s c2
    have ks_p0 := fun s => kw_cell s p0
    have ks_p1 := fun s => kw_cell s p1
    have ks_p2 := fun s => kw_cell s p2
    refine wp_region_kept (by kernel_rfl) (by kernel_rfl) ?_
    repeat (first | go_big_quiet_skip | (go_big_quiet_want; go_big_quiet_op; first | go_big_quiet_on | (apply Exists.intro; refine ⟨fun s => ?_, ?_⟩; (first | (go_at_call 20; exact call_kept (of_c _ _ (by assumption) _)) | (go_at_call 37; exact call_kept (alive03_c _))); go_big_quiet_on)))
    refine wpQuiet_nil ?_
    rintro w4 ⟨⟨_, hk4⟩, rfl⟩
    clear ks_c0
    clear ks_c1
    clear ks_c2
    clear ks_p0
    clear ks_p1
    clear ks_p2
    replace c0 := kept_cell hk4 c0
    replace c1 := kept_cell hk4 c1
    replace c2 := kept_cell hk4 c2
    replace p0 := kept_cell hk4 p0
    replace p1 := kept_cell hk4 p1
    replace p2 := kept_cell hk4 p2
    go_wp2_with fail
    go_ret
    exact ⟨rfl, kept_trans (kept_alloc (kept_refl _) _) (kept_trans hk1 (kept_trans hk2 (kept_trans hk3 (kept_trans hk3a hk4))))⟩
  · have e0 : of 0 (joinv a b c) = of 0 a := by unfold joinv; rw [hf, if_pos rfl, num_0]
    have e1 : of 1 (joinv a b c) = of 1 b := by unfold joinv; rw [hf, if_pos rfl, num_1]
    have e2 : of 2 (joinv a b c) = of 2 c := by unfold joinv; rw [hf, if_pos rfl, num_2]
    have q := eq3_same (of 0 a) (of 1 b) (of 2 c)
    unfold arr3
    have hcz := blk_new w (.cells #[.int .u64 a, .int .u64 b, .int .u64 c] 35)
    have c0 : (w.alloc (.cells #[.int .u64 a, .int .u64 b, .int .u64 c] 35)).cell? ⟨w.heap.size, 0, none⟩ = some (.int .u64 a) := blk_cell hcz 0
    have c1 : (w.alloc (.cells #[.int .u64 a, .int .u64 b, .int .u64 c] 35)).cell? ⟨w.heap.size, 1, none⟩ = some (.int .u64 b) := blk_cell hcz 1
    have c2 : (w.alloc (.cells #[.int .u64 a, .int .u64 b, .int .u64 c] 35)).cell? ⟨w.heap.size, 2, none⟩ = some (.int .u64 c) := blk_cell hcz 2
    clear hcz
    go_enter Try.func9, Try.ntmps9
    go_wp2_with fail
    refine (join_c a b c ha hb hc _).mono ?_
    rintro e w1 ⟨rfl, hk1⟩
    replace c0 := kept_cell hk1 c0
    replace c1 := kept_cell hk1 c1
    replace c2 := kept_cell hk1 c2
    go_wp2_with fail
    refine (rjoin_c a b c ha hb hc _).mono ?_
    rintro e w2 ⟨rfl, hk2⟩
    replace c0 := kept_cell hk2 c0
    replace c1 := kept_cell hk2 c1
    replace c2 := kept_cell hk2 c2
    go_wp2_with fail
    refine (parts_c _ n0 _).mono ?_
    rintro e w3 ⟨rfl, hk3⟩
    replace c0 := kept_cell hk3 c0
    replace c1 := kept_cell hk3 c1
    replace c2 := kept_cell hk3 c2
    rw [e0, e1, e2]
    unfold arr3
    have hp := blk_new w3 (.cells #[.int .u64 (of 0 a), .int .u64 (of 1 b), .int .u64 (of 2 c)] 35)
    have hk3a := kept_alloc (kept_refl w3) (.cells #[.int .u64 (of 0 a), .int .u64 (of 1 b), .int .u64 (of 2 c)] 35)
    have p0 : _ = some (Value.int .u64 (of 0 a)) := blk_cell hp 0
    have p1 : _ = some (Value.int .u64 (of 1 b)) := blk_cell hp 1
    have p2 : _ = some (Value.int .u64 (of 2 c)) := blk_cell hp 2
    replace c0 := kept_cell hk3a c0
    replace c1 := kept_cell hk3a c1
    replace c2 := kept_cell hk3a c2
    go_wp2_with fail
    have ks_c0 := fun s => kw_cell s c0
    have ks_c1 := fun s => kw_cell s c1
    have ks_c2 := fun s => kw_cell s c2
    have ks_p0 := fun s => kw_cell s p0
    have ks_p1 := fun s => kw_cell s p1
    have ks_p2 := fun s => kw_cell s p2
    refine wp_region_kept (by kernel_rfl) (by kernel_rfl) ?_
    repeat (first | go_big_quiet_skip | (go_big_quiet_want; go_big_quiet_op; first | go_big_quiet_on | (apply Exists.intro; refine ⟨fun s => ?_, ?_⟩; (first | (go_at_call 20; exact call_kept (of_c _ _ (by assumption) _)) | (go_at_call 37; exact call_kept (alive03_c _))); go_big_quiet_on)))
    refine wpQuiet_nil ?_
    rintro w4 ⟨⟨_, hk4⟩, rfl⟩
    clear ks_c0
    clear ks_c1
    clear ks_c2
    clear ks_p0
    clear ks_p1
    clear ks_p2
    replace c0 := kept_cell hk4 c0
    replace c1 := kept_cell hk4 c1
    replace c2 := kept_cell hk4 c2
    replace p0 := kept_cell hk4 p0
    replace p1 := kept_cell hk4 p1
    replace p2 := kept_cell hk4 p2
    go_wp2_with fail
    go_ret
    exact ⟨rfl, kept_trans (kept_alloc (kept_refl _) _) (kept_trans hk1 (kept_trans hk2 (kept_trans hk3 (kept_trans hk3a hk4))))⟩

theorem mulpr_bd (k a : Int) : 0 ≤ a % 1000000 * pr k ∧ a % 1000000 * pr k ≤ 998244353000000 := by
  have h := pr_range k
  have h0 : 0 ≤ a % 1000000 := by omega
  have h1 : a % 1000000 ≤ 1000000 := by omega
  refine ⟨Int.mul_nonneg h0 h.1, ?_⟩
  have := Int.mul_le_mul h1 h.2 h.1 (by decide)
  omega
theorem cong_more (k n a : Int) : Cong k (of k n + a % 1000000 * pr k) n := by
  rw [Int.mul_comm]; exact (cong_pr k _ _).trans (cong_of k n)
theorem crtBack_w (n a b c : Int) (hn : 0 ≤ n) (hn2 : n ≤ 18446744073709551615) (ha : 0 ≤ a) (hb : 0 ≤ b) (hc : 0 ≤ c) (w : World) : Calls Try.prog 10 #[.int .u64 n, arr3 a b c] w (Ret (.bool true) w) := by
  have q := eq3_same (of 0 n) (of 1 n) (of 2 n)
  have b0 := of_bd 0 n
  have b1 := of_bd 1 n
  have b2 := of_bd 2 n
  have m0 := mulpr_bd 0 a
  have m1 := mulpr_bd 1 b
  have m2 := mulpr_bd 2 c
  have j1 : joinv (of 0 n) (of 1 n) (of 2 n) = n := joinv_of hn hn2 (cong_of _ _) (cong_of _ _) (cong_of _ _)
  have f1 : fits (of 0 n) (of 1 n) (of 2 n) = true := fits_of hn hn2 (cong_of _ _) (cong_of _ _) (cong_of _ _)
  have j2 : joinv (of 0 n + a % 1000000 * pr 0) (of 1 n + b % 1000000 * pr 1) (of 2 n + c % 1000000 * pr 2) = n := joinv_of hn hn2 (cong_more _ _ _) (cong_more _ _ _) (cong_more _ _ _)
  have f2 : fits (of 0 n + a % 1000000 * pr 0) (of 1 n + b % 1000000 * pr 1) (of 2 n + c % 1000000 * pr 2) = true := fits_of hn hn2 (cong_more _ _ _) (cong_more _ _ _) (cong_more _ _ _)
  have J1 := Lib.hid j1
  have J2 := Lib.hid j2
  have F1 := Lib.hid f1
  have F2 := Lib.hid f2
  clear j1 f1 j2 f2
  unfold arr3
  have hcz := blk_new w (.cells #[.int .u64 a, .int .u64 b, .int .u64 c] 35)
  have c0 : (w.alloc (.cells #[.int .u64 a, .int .u64 b, .int .u64 c] 35)).cell? ⟨w.heap.size, 0, none⟩ = some (.int .u64 a) := blk_cell hcz 0
  have c1 : (w.alloc (.cells #[.int .u64 a, .int .u64 b, .int .u64 c] 35)).cell? ⟨w.heap.size, 1, none⟩ = some (.int .u64 b) := blk_cell hcz 1
  have c2 : (w.alloc (.cells #[.int .u64 a, .int .u64 b, .int .u64 c] 35)).cell? ⟨w.heap.size, 2, none⟩ = some (.int .u64 c) := blk_cell hcz 2
  clear hcz
  go_enter Try.func10, Try.ntmps10
  go_wp2_with fail
  refine (parts_c n hn _).mono ?_
  rintro e w1 ⟨rfl, hk1⟩
  replace c0 := kept_cell hk1 c0
  replace c1 := kept_cell hk1 c1
  replace c2 := kept_cell hk1 c2
  unfold arr3
  have hp := blk_new w1 (.cells #[.int .u64 (of 0 n), .int .u64 (of 1 n), .int .u64 (of 2 n)] 35)
  have hk1a := kept_alloc (kept_refl w1) (.cells #[.int .u64 (of 0 n), .int .u64 (of 1 n), .int .u64 (of 2 n)] 35)
  replace c0 := kept_cell hk1a c0
  have p0 : _ = some (Value.int .u64 (of 0 n)) := blk_cell hp 0
  replace c1 := kept_cell hk1a c1
  have p1 : _ = some (Value.int .u64 (of 1 n)) := blk_cell hp 1
  replace c2 := kept_cell hk1a c2
  have p2 : _ = some (Value.int .u64 (of 2 n)) := blk_cell hp 2
  go_wp2_with fail
  have ks_p0 := fun s => kw_cell s p0
  have ks_p1 := fun s => kw_cell s p1
  have ks_p2 := fun s => kw_cell s p2
  refine wp_region_kept (by kernel_rfl) (by kernel_rfl) ?_
  repeat (first | go_big_quiet_skip | (go_big_quiet_want; go_big_quiet_op; first | go_big_quiet_on | (apply Exists.intro; refine ⟨fun s => ?_, ?_⟩; (first | (go_at_call 38; exact call_kept (rparts_c _ hn _))); go_big_quiet_on)))
  refine wpQuiet_nil ?_
  rintro w2 ⟨⟨_, hk2⟩, rfl⟩
  clear ks_p0
  clear ks_p1
  clear ks_p2
  replace c0 := kept_cell hk2 c0
  replace c1 := kept_cell hk2 c1
  replace c2 := kept_cell hk2 c2
  replace p0 := kept_cell hk2 p0
  replace p1 := kept_cell hk2 p1
  replace p2 := kept_cell hk2 p2
  replace hp := blk_kept hk2 hp
  go_wp2_with fail
  have hq := blk_new w2 (.cells #[.int .u64 (of 0 n), .int .u64 (of 1 n), .int .u64 (of 2 n)] 35)
  have hk2a := kept_alloc (kept_refl w2) (.cells #[.int .u64 (of 0 n), .int .u64 (of 1 n), .int .u64 (of 2 n)] 35)
  replace c0 := kept_cell hk2a c0
  replace c1 := kept_cell hk2a c1
  replace c2 := kept_cell hk2a c2
  replace p0 := kept_cell hk2a p0
  replace p1 := kept_cell hk2a p1
  replace p2 := kept_cell hk2a p2
  replace hp := blk_kept hk2a hp
  refine wp_loop_rounds 4 ?_
  rw [rounds_succ]
  have hw2 : w.heap.size ≤ w2.heap.size := by have := hk1.size; have := hk2.size; simp at *; omega
  have hne1 : w.heap.size ≠ w2.heap.size := by have := hk1.size; have := hk2.size; simp at *; omega
  have hne2 : w1.heap.size ≠ w2.heap.size := by have := hk2.size; simp at *; omega
  have KA := kept_trans (kept_alloc (kept_refl w) _) (kept_trans hk1 (kept_trans hk1a (kept_trans hk2 hk2a)))
  have q0 : _ = some (Value.int .u64 (of 0 n)) := blk_cell hq 0
  go_wp2_with fail
  have ks_c0 := fun s => kw_cell s c0
  have ks_q0 := fun s => kw_cell s q0
  refine wp_region_tail 12 (by kernel_rfl) (by kernel_rfl) ?_
  simp only [List.take_succ_cons, List.take_zero, List.drop_succ_cons, List.drop_zero]
  repeat (first | go_big_quiet_skip | (go_big_quiet_want; go_big_quiet_op; first | go_big_quiet_on | (apply Exists.intro; refine ⟨fun s => ?_, ?_⟩; (first | (go_at_call 18; exact call_kept (prime_c 0 _))); go_big_quiet_on)))
  refine wpQuiet_nil ?_
  rintro w3 ⟨⟨_, hk3⟩, rfl⟩
  clear ks_c0
  clear ks_q0
  replace c0 := kept_cell hk3 c0
  replace c1 := kept_cell hk3 c1
  replace c2 := kept_cell hk3 c2
  replace p0 := kept_cell hk3 p0
  replace p1 := kept_cell hk3 p1
  replace p2 := kept_cell hk3 p2
  replace hp := blk_kept hk3 hp
  replace hq := blk_kept hk3 hq
  replace q0 := kept_cell hk3 q0
  have qf := blk_frozen hq 0
  have KB3 := kept_trans KA hk3
  go_wp2_with fail
  rw [rounds_succ]
  replace hq : (w3.setCell ⟨w2.heap.size, 0, none⟩ (.int .u64 (of 0 n + a % 1000000 * pr 0))).heap[w2.heap.size]? = some (.cells #[.int .u64 (of 0 n + a % 1000000 * pr 0), .int .u64 (of 1 n), .int .u64 (of 2 n)] 35 (0, 0)) := blk_set hq 0 _
  have KC : Kept w (w3.setCell ⟨w2.heap.size, 0, none⟩ (.int .u64 (of 0 n + a % 1000000 * pr 0))) := kept_set KB3 (p := ⟨w2.heap.size, 0, none⟩) hw2 _
  replace c0 := cell_far c0 (p := ⟨w2.heap.size, 0, none⟩) hne1 (.int .u64 (of 0 n + a % 1000000 * pr 0))
  replace c1 := cell_far c1 (p := ⟨w2.heap.size, 0, none⟩) hne1 (.int .u64 (of 0 n + a % 1000000 * pr 0))
  replace c2 := cell_far c2 (p := ⟨w2.heap.size, 0, none⟩) hne1 (.int .u64 (of 0 n + a % 1000000 * pr 0))
  replace p0 := cell_far p0 (p := ⟨w2.heap.size, 0, none⟩) hne2 (.int .u64 (of 0 n + a % 1000000 * pr 0))
  replace p1 := cell_far p1 (p := ⟨w2.heap.size, 0, none⟩) hne2 (.int .u64 (of 0 n + a % 1000000 * pr 0))
  replace p2 := cell_far p2 (p := ⟨w2.heap.size, 0, none⟩) hne2 (.int .u64 (of 0 n + a % 1000000 * pr 0))
  replace hp := blk_far hp (p := ⟨w2.heap.size, 0, none⟩) hne2 (.int .u64 (of 0 n + a % 1000000 * pr 0))
  clear q0 qf KB3
  have q1 : _ = some (Value.int .u64 (of 1 n)) := blk_cell hq 1
  go_wp2_with fail
  have ks_c1 := fun s => kw_cell s c1
  have ks_q1 := fun s => kw_cell s q1
  refine wp_region_tail 12 (by kernel_rfl) (by kernel_rfl) ?_
  simp only [List.take_succ_cons, List.take_zero, List.drop_succ_cons, List.drop_zero]
  repeat (first | go_big_quiet_skip | (go_big_quiet_want; go_big_quiet_op; first | go_big_quiet_on | (apply Exists.intro; refine ⟨fun s => ?_, ?_⟩; (first | (go_at_call 18; exact call_kept (prime_c 1 _))); go_big_quiet_on)))
  refine wpQuiet_nil ?_
  rintro w4 ⟨⟨_, hk4⟩, rfl⟩
  clear ks_c1
  clear ks_q1
  replace c0 := kept_cell hk4 c0
  replace c1 := kept_cell hk4 c1
  replace c2 := kept_cell hk4 c2
  replace p0 := kept_cell hk4 p0
  replace p1 := kept_cell hk4 p1
  replace p2 := kept_cell hk4 p2
  replace hp := blk_kept hk4 hp
  replace hq := blk_kept hk4 hq
  replace q1 := kept_cell hk4 q1
  have qf := blk_frozen hq 1
  have KB4 := kept_trans KC hk4
  go_wp2_with fail
  rw [rounds_succ]
  replace hq : (w4.setCell ⟨w2.heap.size, 1, none⟩ (.int .u64 (of 1 n + b % 1000000 * pr 1))).heap[w2.heap.size]? = some (.cells #[.int .u64 (of 0 n + a % 1000000 * pr 0), .int .u64 (of 1 n + b % 1000000 * pr 1), .int .u64 (of 2 n)] 35 (0, 0)) := blk_set hq 1 _
  have KC : Kept w (w4.setCell ⟨w2.heap.size, 1, none⟩ (.int .u64 (of 1 n + b % 1000000 * pr 1))) := kept_set KB4 (p := ⟨w2.heap.size, 1, none⟩) hw2 _
  replace c0 := cell_far c0 (p := ⟨w2.heap.size, 1, none⟩) hne1 (.int .u64 (of 1 n + b % 1000000 * pr 1))
  replace c1 := cell_far c1 (p := ⟨w2.heap.size, 1, none⟩) hne1 (.int .u64 (of 1 n + b % 1000000 * pr 1))
  replace c2 := cell_far c2 (p := ⟨w2.heap.size, 1, none⟩) hne1 (.int .u64 (of 1 n + b % 1000000 * pr 1))
  replace p0 := cell_far p0 (p := ⟨w2.heap.size, 1, none⟩) hne2 (.int .u64 (of 1 n + b % 1000000 * pr 1))
  replace p1 := cell_far p1 (p := ⟨w2.heap.size, 1, none⟩) hne2 (.int .u64 (of 1 n + b % 1000000 * pr 1))
  replace p2 := cell_far p2 (p := ⟨w2.heap.size, 1, none⟩) hne2 (.int .u64 (of 1 n + b % 1000000 * pr 1))
  replace hp := blk_far hp (p := ⟨w2.heap.size, 1, none⟩) hne2 (.int .u64 (of 1 n + b % 1000000 * pr 1))
  clear q1 qf KB4
  have q2 : _ = some (Value.int .u64 (of 2 n)) := blk_cell hq 2
  go_wp2_with fail
  have ks_c2 := fun s => kw_cell s c2
  have ks_q2 := fun s => kw_cell s q2
  refine wp_region_tail 12 (by kernel_rfl) (by kernel_rfl) ?_
  simp only [List.take_succ_cons, List.take_zero, List.drop_succ_cons, List.drop_zero]
  repeat (first | go_big_quiet_skip | (go_big_quiet_want; go_big_quiet_op; first | go_big_quiet_on | (apply Exists.intro; refine ⟨fun s => ?_, ?_⟩; (first | (go_at_call 18; exact call_kept (prime_c 2 _))); go_big_quiet_on)))
  refine wpQuiet_nil ?_
  rintro w5 ⟨⟨_, hk5⟩, rfl⟩
  clear ks_c2
  clear ks_q2
  replace c0 := kept_cell hk5 c0
  replace c1 := kept_cell hk5 c1
  replace c2 := kept_cell hk5 c2
  replace p0 := kept_cell hk5 p0
  replace p1 := kept_cell hk5 p1
  replace p2 := kept_cell hk5 p2
  replace hp := blk_kept hk5 hp
  replace hq := blk_kept hk5 hq
  replace q2 := kept_cell hk5 q2
  have qf := blk_frozen hq 2
  have KB5 := kept_trans KC hk5
  have hlt := blk_lt hq
  go_wp2_with fail
  rw [rounds_succ]
  replace hq : (w5.setCell ⟨w2.heap.size, 2, none⟩ (.int .u64 (of 2 n + c % 1000000 * pr 2))).heap[w2.heap.size]? = some (.cells #[.int .u64 (of 0 n + a % 1000000 * pr 0), .int .u64 (of 1 n + b % 1000000 * pr 1), .int .u64 (of 2 n + c % 1000000 * pr 2)] 35 (0, 0)) := blk_set hq 2 _
  have KC : Kept w (w5.setCell ⟨w2.heap.size, 2, none⟩ (.int .u64 (of 2 n + c % 1000000 * pr 2))) := kept_set KB5 (p := ⟨w2.heap.size, 2, none⟩) hw2 _
  replace c0 := cell_far c0 (p := ⟨w2.heap.size, 2, none⟩) hne1 (.int .u64 (of 2 n + c % 1000000 * pr 2))
  replace c1 := cell_far c1 (p := ⟨w2.heap.size, 2, none⟩) hne1 (.int .u64 (of 2 n + c % 1000000 * pr 2))
  replace c2 := cell_far c2 (p := ⟨w2.heap.size, 2, none⟩) hne1 (.int .u64 (of 2 n + c % 1000000 * pr 2))
  replace p0 := cell_far p0 (p := ⟨w2.heap.size, 2, none⟩) hne2 (.int .u64 (of 2 n + c % 1000000 * pr 2))
  replace p1 := cell_far p1 (p := ⟨w2.heap.size, 2, none⟩) hne2 (.int .u64 (of 2 n + c % 1000000 * pr 2))
  replace p2 := cell_far p2 (p := ⟨w2.heap.size, 2, none⟩) hne2 (.int .u64 (of 2 n + c % 1000000 * pr 2))
  replace hp := blk_far hp (p := ⟨w2.heap.size, 2, none⟩) hne2 (.int .u64 (of 2 n + c % 1000000 * pr 2))
  clear q2 qf KB5
  have z0 : _ = some (Value.int .u64 (of 0 n + a % 1000000 * pr 0)) := blk_cell hq 0
  have z1 : _ = some (Value.int .u64 (of 1 n + b % 1000000 * pr 1)) := blk_cell hq 1
  have z2 : _ = some (Value.int .u64 (of 2 n + c % 1000000 * pr 2)) := blk_cell hq 2
  go_wp2_with fail
  refine (join_c _ _ _ b0.1 b1.1 b2.1 _).mono ?_
  rintro e w6 ⟨rfl, hk6⟩
  replace z0 := kept_cell hk6 z0
  replace z1 := kept_cell hk6 z1
  replace z2 := kept_cell hk6 z2
  rw [J1.out, F1.out]
  go_wp2_with fail
  refine (join_c _ _ _ (Int.add_nonneg b0.1 m0.1) (Int.add_nonneg b1.1 m1.1) (Int.add_nonneg b2.1 m2.1) _).mono ?_
  rintro e w7 ⟨rfl, hk7⟩
  replace z0 := kept_cell hk7 z0
  replace z1 := kept_cell hk7 z1
  replace z2 := kept_cell hk7 z2
  rw [J2.out, F2.out]
  go_wp2_with fail
  refine (alive03_c _).mono ?_
  rintro e w8 ⟨rfl, hk8⟩
  replace z0 := kept_cell hk8 z0
  replace z1 := kept_cell hk8 z1
  replace z2 := kept_cell hk8 z2
  go_wp2_with fail
  go_ret
  exact ⟨rfl, kept_trans KC (kept_trans hk6 (kept_trans hk7 hk8))⟩

theorem parts_inj {a b : Int} (ha : 0 ≤ a) (ha2 : a ≤ 18446744073709551615) (hb : 0 ≤ b) (hb2 : b ≤ 18446744073709551615) (h0 : of 0 a = of 0 b) (h1 : of 1 a = of 1 b) (h2 : of 2 a = of 2 b) : a = b := by
  have e1 := joinv_of ha ha2 (cong_of 0 a) (cong_of 1 a) (cong_of 2 a)
  have e2 := joinv_of hb hb2 (cong_of 0 b) (cong_of 1 b) (cong_of 2 b)
  rw [h0, h1, h2] at e1
  exact e1.symm.trans e2
theorem crtApart_w (a b : Int) (ha : 0 ≤ a) (ha2 : a ≤ 18446744073709551615) (hb : 0 ≤ b) (hb2 : b ≤ 18446744073709551615) (w : World) : Calls Try.prog 11 #[.int .u64 a, .int .u64 b] w (Ret (.bool true) w) := by
  by_cases hab : a = b
  · subst hab
    have q := eq3_same (of 0 a) (of 1 a) (of 2 a)
    go_enter Try.func11, Try.ntmps11
    go_wp2_with fail
    refine (alive03_c _).mono ?_
    rintro e w1 ⟨rfl, hk1⟩
    go_wp2_with fail
    refine (parts_c a ha _).mono ?_
    rintro e w2 ⟨rfl, hk2⟩
    go_wp2_with fail
    refine (parts_c a ha _).mono ?_
    rintro e w3 ⟨rfl, hk3⟩
    unfold arr3
    go_wp2_with fail
    go_ret
    exact ⟨rfl, kept_trans hk1 (kept_trans hk2 hk3)⟩
  · have hne : ([of 0 a, of 1 a, of 2 a] == [of 0 b, of 1 b, of 2 b]) = false := by
      by_cases h : [of 0 a, of 1 a, of 2 a] = [of 0 b, of 1 b, of 2 b]
      · simp only [List.cons.injEq, and_true] at h
        exact absurd (parts_inj ha ha2 hb hb2 h.1 h.2.1 h.2.2) hab
      · exact beq_eq_false_iff_ne.2 h
    have q := eq3 (of 0 a) (of 1 a) (of 2 a) (of 0 b) (of 1 b) (of 2 b)
    rw [hne] at q
    clear hne
    have hab' : (a == b) = false := beq_false_of_ne hab
    go_enter Try.func11, Try.ntmps11
    go_wp2_with fail
    refine (alive03_c _).mono ?_
    rintro e w1 ⟨rfl, hk1⟩
    go_wp2_with fail
    refine (parts_c a ha _).mono ?_
    rintro e w2 ⟨rfl, hk2⟩
    go_wp2_with fail
    refine (parts_c b hb _).mono ?_
    rintro e w3 ⟨rfl, hk3⟩
    unfold arr3
    go_wp2_with fail
    go_ret
    exact ⟨rfl, kept_trans hk1 (kept_trans hk2 hk3)⟩
theorem prime0_c (w : World) : Calls Try.prog 18 #[.int .i64 0] w (Ret (.int .u64 998244353) w) := by have := prime_c 0 w; rwa [pr0] at this
theorem prime1_c (w : World) : Calls Try.prog 18 #[.int .i64 1] w (Ret (.int .u64 167772161) w) := by have := prime_c 1 w; rwa [pr1] at this
theorem prime2_c (w : World) : Calls Try.prog 18 #[.int .i64 2] w (Ret (.int .u64 469762049) w) := by have := prime_c 2 w; rwa [pr2] at this
theorem prime_at (k p : Int) (h : pr k = p) (w : World) : Calls Try.prog 18 #[.int .i64 k] w (Ret (.int .u64 p) w) := h ▸ prime_c k w
set_option maxHeartbeats 1000000 in
theorem crtMixed_w (a b c : Int) (ha : 0 ≤ a) (hb : 0 ≤ b) (hc : 0 ≤ c) (w : World) : Calls Try.prog 14 #[arr3 a b c] w (Ret (.bool true) w) := by
  have q := eq3_same (dg0 a) (dg1 a b) (dg2 a b c)
  have d0 := dg0_bd a
  have d1 := dg1_bd a b
  have d2 := dg2_bd a b c
  have s0 : decide (998244353 ≤ dg0 a) = false := decide_eq_false (by omega)
  have s1 : decide (167772161 ≤ dg1 a b) = false := decide_eq_false (by omega)
  have s2 : decide (469762049 ≤ dg2 a b c) = false := decide_eq_false (by omega)
  have A0 := fun w => (show addm 0 (dg0 a) (mulm 0 (addm 0 (dg1 a b) (mulm 0 (dg2 a b c) 167772161)) 998244353) = of 0 a by rw [addm_num, num_0]) ▸ add_c 0 (dg0 a) (mulm 0 (addm 0 (dg1 a b) (mulm 0 (dg2 a b c) 167772161)) 998244353) d0.1 (mulm_bd _ _ _).1 w
  have A1 := fun w => (show addm 1 (dg0 a) (mulm 1 (addm 1 (dg1 a b) (mulm 1 (dg2 a b c) 167772161)) 998244353) = of 1 b by rw [addm_num, num_1]) ▸ add_c 1 (dg0 a) (mulm 1 (addm 1 (dg1 a b) (mulm 1 (dg2 a b c) 167772161)) 998244353) d0.1 (mulm_bd _ _ _).1 w
  have A2 := fun w => (show addm 2 (dg0 a) (mulm 2 (addm 2 (dg1 a b) (mulm 2 (dg2 a b c) 167772161)) 998244353) = of 2 c by rw [addm_num, num_2]) ▸ add_c 2 (dg0 a) (mulm 2 (addm 2 (dg1 a b) (mulm 2 (dg2 a b c) 167772161)) 998244353) d0.1 (mulm_bd _ _ _).1 w
  unfold arr3
  have hcz := blk_new w (.cells #[.int .u64 a, .int .u64 b, .int .u64 c] 35)
  have c0 : (w.alloc (.cells #[.int .u64 a, .int .u64 b, .int .u64 c] 35)).cell? ⟨w.heap.size, 0, none⟩ = some (.int .u64 a) := blk_cell hcz 0
  have c1 : (w.alloc (.cells #[.int .u64 a, .int .u64 b, .int .u64 c] 35)).cell? ⟨w.heap.size, 1, none⟩ = some (.int .u64 b) := blk_cell hcz 1
  have c2 : (w.alloc (.cells #[.int .u64 a, .int .u64 b, .int .u64 c] 35)).cell? ⟨w.heap.size, 2, none⟩ = some (.int .u64 c) := blk_cell hcz 2
  clear hcz
  go_enter Try.func14, Try.ntmps14
  go_wp2_with fail
  refine (mixed_c a b c ha hb hc _).mono ?_
  rintro e w1 ⟨rfl, hk1⟩
  replace c0 := kept_cell hk1 c0
  replace c1 := kept_cell hk1 c1
  replace c2 := kept_cell hk1 c2
  unfold arr3
  have hp := blk_new w1 (.cells #[.int .u64 (dg0 a), .int .u64 (dg1 a b), .int .u64 (dg2 a b c)] 35)
  have hk1a := kept_alloc (kept_refl w1) (.cells #[.int .u64 (dg0 a), .int .u64 (dg1 a b), .int .u64 (dg2 a b c)] 35)
  replace c0 := kept_cell hk1a c0
  have p0 : _ = some (Value.int .u64 (dg0 a)) := blk_cell hp 0
  replace c1 := kept_cell hk1a c1
  have p1 : _ = some (Value.int .u64 (dg1 a b)) := blk_cell hp 1
  replace c2 := kept_cell hk1a c2
  have p2 : _ = some (Value.int .u64 (dg2 a b c)) := blk_cell hp 2
  go_wp2_with fail
  have ks_c0 := fun s => kw_cell s c0
  have ks_c1 := fun s => kw_cell s c1
  have ks_c2 := fun s => kw_cell s c2
  have ks_p0 := fun s => kw_cell s p0
  have ks_p1 := fun s => kw_cell s p1
  have ks_p2 := fun s => kw_cell s p2
  refine wp_region_kept (by kernel_rfl) (by kernel_rfl) ?_
  repeat (first | go_big_quiet_skip | (go_big_quiet_want; go_big_quiet_op; first | go_big_quiet_on | (apply Exists.intro; refine ⟨fun s => ?_, ?_⟩; (first | (go_at_call 43; exact call_kept (rmixed_c a b c ha hb hc _))); go_big_quiet_on)))
  refine wpQuiet_nil ?_
  rintro w2 ⟨⟨_, hk2⟩, rfl⟩
  clear ks_c0
  clear ks_c1
  clear ks_c2
  clear ks_p0
  clear ks_p1
  clear ks_p2
  replace c0 := kept_cell hk2 c0
  replace c1 := kept_cell hk2 c1
  replace c2 := kept_cell hk2 c2
  replace p0 := kept_cell hk2 p0
  replace p1 := kept_cell hk2 p1
  replace p2 := kept_cell hk2 p2
  go_wp2_with fail
  refine wp_loop_rounds 4 ?_
  rw [rounds_succ]
  go_wp2_with fail
  have ks_p1 := fun s => kw_cell s p1
  have ks_p2 := fun s => kw_cell s p2
  refine wp_region_kept (by kernel_rfl) (by kernel_rfl) ?_
  repeat (first | go_big_quiet_skip | (go_big_quiet_want; go_big_quiet_op; first | go_big_quiet_on | (apply Exists.intro; refine ⟨fun s => ?_, ?_⟩; (first | (go_at_call 18; exact call_kept (prime1_c _)) | (go_at_call 17; exact call_kept (mul_c _ _ _ d2.1 (by decide) _)) | (go_at_call 15; exact call_kept (add_c _ _ _ d1.1 (mulm_bd _ _ _).1 _))); go_big_quiet_on)))
  refine wpQuiet_nil ?_
  rintro w3 ⟨⟨_, hk3⟩, rfl⟩
  clear ks_p1
  clear ks_p2
  replace c0 := kept_cell hk3 c0
  replace c1 := kept_cell hk3 c1
  replace c2 := kept_cell hk3 c2
  replace p0 := kept_cell hk3 p0
  replace p1 := kept_cell hk3 p1
  replace p2 := kept_cell hk3 p2
  go_wp2_with fail
  have ks_c0 := fun s => kw_cell s c0
  have ks_p0 := fun s => kw_cell s p0
  refine wp_region_kept (by kernel_rfl) (by kernel_rfl) ?_
  repeat (first | go_big_quiet_skip | (go_big_quiet_want; go_big_quiet_op; first | go_big_quiet_on | (apply Exists.intro; refine ⟨fun s => ?_, ?_⟩; (first | (go_at_call 18; exact call_kept (prime_at _ _ (by first | exact pr0 | exact pr1 | exact pr2) _)) | (go_at_call 17; exact call_kept (mul_c _ _ _ (addm_bd _ _ _).1 (by decide) _)) | (go_at_call 15; exact call_kept (A0 _)) | (go_at_call 20; exact call_kept (of_c _ _ ha _))); go_big_quiet_on)))
  refine wpQuiet_nil ?_
  rintro w4 ⟨⟨_, hk4⟩, rfl⟩
  clear ks_c0
  clear ks_p0
  replace c0 := kept_cell hk4 c0
  replace c1 := kept_cell hk4 c1
  replace c2 := kept_cell hk4 c2
  replace p0 := kept_cell hk4 p0
  replace p1 := kept_cell hk4 p1
  replace p2 := kept_cell hk4 p2
  go_wp2_with fail
  rw [rounds_succ]
  go_wp2_with fail
  have ks_p1 := fun s => kw_cell s p1
  have ks_p2 := fun s => kw_cell s p2
  refine wp_region_kept (by kernel_rfl) (by kernel_rfl) ?_
  repeat (first | go_big_quiet_skip | (go_big_quiet_want; go_big_quiet_op; first | go_big_quiet_on | (apply Exists.intro; refine ⟨fun s => ?_, ?_⟩; (first | (go_at_call 18; exact call_kept (prime1_c _)) | (go_at_call 17; exact call_kept (mul_c _ _ _ d2.1 (by decide) _)) | (go_at_call 15; exact call_kept (add_c _ _ _ d1.1 (mulm_bd _ _ _).1 _))); go_big_quiet_on)))
  refine wpQuiet_nil ?_
  rintro w5 ⟨⟨_, hk5⟩, rfl⟩
  clear ks_p1
  clear ks_p2
  replace c0 := kept_cell hk5 c0
  replace c1 := kept_cell hk5 c1
  replace c2 := kept_cell hk5 c2
  replace p0 := kept_cell hk5 p0
  replace p1 := kept_cell hk5 p1
  replace p2 := kept_cell hk5 p2
  go_wp2_with fail
  have ks_c1 := fun s => kw_cell s c1
  have ks_p0 := fun s => kw_cell s p0
  have ks_p1 := fun s => kw_cell s p1
  refine wp_region_kept (by kernel_rfl) (by kernel_rfl) ?_
  repeat (first | go_big_quiet_skip | (go_big_quiet_want; go_big_quiet_op; first | go_big_quiet_on | (apply Exists.intro; refine ⟨fun s => ?_, ?_⟩; (first | (go_at_call 18; exact call_kept (prime_at _ _ (by first | exact pr0 | exact pr1 | exact pr2) _)) | (go_at_call 17; exact call_kept (mul_c _ _ _ (addm_bd _ _ _).1 (by decide) _)) | (go_at_call 15; exact call_kept (A1 _)) | (go_at_call 20; exact call_kept (of_c _ _ hb _))); go_big_quiet_on)))
  refine wpQuiet_nil ?_
  rintro w6 ⟨⟨_, hk6⟩, rfl⟩
  clear ks_c1
  clear ks_p0
  clear ks_p1
  replace c0 := kept_cell hk6 c0
  replace c1 := kept_cell hk6 c1
  replace c2 := kept_cell hk6 c2
  replace p0 := kept_cell hk6 p0
  replace p1 := kept_cell hk6 p1
  replace p2 := kept_cell hk6 p2
  go_wp2_with fail
  rw [rounds_succ]
  go_wp2_with fail
  have ks_p1 := fun s => kw_cell s p1
  have ks_p2 := fun s => kw_cell s p2
  refine wp_region_kept (by kernel_rfl) (by kernel_rfl) ?_
  repeat (first | go_big_quiet_skip | (go_big_quiet_want; go_big_quiet_op; first | go_big_quiet_on | (apply Exists.intro; refine ⟨fun s => ?_, ?_⟩; (first | (go_at_call 18; exact call_kept (prime1_c _)) | (go_at_call 17; exact call_kept (mul_c _ _ _ d2.1 (by decide) _)) | (go_at_call 15; exact call_kept (add_c _ _ _ d1.1 (mulm_bd _ _ _).1 _))); go_big_quiet_on)))
  refine wpQuiet_nil ?_
  rintro w7 ⟨⟨_, hk7⟩, rfl⟩
  clear ks_p1
  clear ks_p2
  replace c0 := kept_cell hk7 c0
  replace c1 := kept_cell hk7 c1
  replace c2 := kept_cell hk7 c2
  replace p0 := kept_cell hk7 p0
  replace p1 := kept_cell hk7 p1
  replace p2 := kept_cell hk7 p2
  go_wp2_with fail
  have ks_c2 := fun s => kw_cell s c2
  have ks_p0 := fun s => kw_cell s p0
  have ks_p2 := fun s => kw_cell s p2
  refine wp_region_kept (by kernel_rfl) (by kernel_rfl) ?_
  repeat (first | go_big_quiet_skip | (go_big_quiet_want; go_big_quiet_op; first | go_big_quiet_on | (apply Exists.intro; refine ⟨fun s => ?_, ?_⟩; (first | (go_at_call 18; exact call_kept (prime_at _ _ (by first | exact pr0 | exact pr1 | exact pr2) _)) | (go_at_call 17; exact call_kept (mul_c _ _ _ (addm_bd _ _ _).1 (by decide) _)) | (go_at_call 15; exact call_kept (A2 _)) | (go_at_call 20; exact call_kept (of_c _ _ hc _))); go_big_quiet_on)))
  refine wpQuiet_nil ?_
  rintro w8 ⟨⟨_, hk8⟩, rfl⟩
  clear ks_c2
  clear ks_p0
  clear ks_p2
  replace c0 := kept_cell hk8 c0
  replace c1 := kept_cell hk8 c1
  replace c2 := kept_cell hk8 c2
  replace p0 := kept_cell hk8 p0
  replace p1 := kept_cell hk8 p1
  replace p2 := kept_cell hk8 p2
  go_wp2_with fail
  rw [rounds_succ]
  clear s0 s1 s2 A0 A1 A2 d0 d1 d2 q c0 c1 c2 p0 p1 p2 hp
  go_wp2_with fail
  refine (alive03_c _).mono ?_
  rintro e w9 ⟨rfl, hk9⟩
  go_wp2_with fail
  go_ret
  exact ⟨rfl, kept_trans (kept_alloc (kept_refl _) _) (kept_trans hk1 (kept_trans hk1a (kept_trans hk2 (kept_trans hk3 (kept_trans hk4 (kept_trans hk5 (kept_trans hk6 (kept_trans hk7 (kept_trans hk8 hk9)))))))))⟩
end Go.Proofs.Ytjfpcggpdbkjgaa
