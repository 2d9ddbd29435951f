/-
  beagleref03's functions, each by a contract.
-/
import Derived.Test.YtjfpcggpdbkjgaaWCrt
import Derived.Test.YtjfpcggpdbkjgaaSl
namespace Go.Proofs.Ytjfpcggpdbkjgaa
open Go.RowKit BG
attribute [local go_sem ↓] Go.wp_at_zero Go.wp_at_succ
set_option linter.unusedVariables false

theorem rquot_c (k a b : Int) (ha : 0 ≤ a) (hb : 0 ≤ b) (w : World) : Calls Try.prog 44 #[.int .i64 k, .int .u64 a, .int .u64 b] w (Ret (.int .u64 (mulm k a (invm k b))) w) := by
  have h1 := invm_bd k b
  go_enter Try.func44, Try.ntmps44
  go_wp2_with fail
  refine (rinv_c k b hb _).mono ?_
  rintro e w1 ⟨rfl, hk1⟩
  go_wp2_with fail
  refine (rmul_c k a _ ha h1.1 _).mono ?_
  rintro e w2 ⟨rfl, hk2⟩
  go_wp2_with fail
  go_ret
  exact ⟨rfl, kept_trans hk1 hk2⟩

theorem rparts_c (n : Int) (h0 : 0 ≤ n) (w : World) : Calls Try.prog 38 #[.int .u64 n] w (Ret (arr3 (of 0 n) (of 1 n) (of 2 n)) w) := by
  have e0 : n % 998244353 = of 0 n := by rw [of_eq (by rw [pr0]; decide), pr0]
  have e1 : n % 167772161 = of 1 n := by rw [of_eq (by rw [pr1]; decide), pr1]
  have e2 : n % 469762049 = of 2 n := by rw [of_eq (by rw [pr2]; decide), pr2]
  unfold arr3
  go_enter Try.func38, Try.ntmps38
  go_wp2_with fail
  exact bodyPost_ret (v := arr3 (of 0 n) (of 1 n) (of 2 n)) (by simp [results, Try.results38, go_sem, arr3]) rfl ⟨rfl, by go_grown⟩

theorem rmixed_c (a b c : Int) (ha : 0 ≤ a) (hb : 0 ≤ b) (hc : 0 ≤ c) (w : World) : Calls Try.prog 43 #[arr3 a b c] w (Ret (arr3 (dg0 a) (dg1 a b) (dg2 a b c)) w) := by
  have e0 : a % 998244353 = dg0 a := by unfold dg0; rw [of_eq (by rw [pr0]; decide), pr0]
  have d0 := dg0_bd a
  have d1 := dg1_bd a b
  have s1 := subm_bd 1 b (dg0 a)
  have m1 := mulm_bd 2 (dg1 a b) 998244353
  have a1 := addm_bd 2 (dg0 a) (mulm 2 (dg1 a b) 998244353)
  have s2 := subm_bd 2 c (addm 2 (dg0 a) (mulm 2 (dg1 a b) 998244353))
  have m2 := mulm_bd 2 998244353 167772161
  have q1 : mulm 1 (subm 1 b (dg0 a)) (invm 1 998244353) = dg1 a b := rfl
  have q2 := dg2_is a b c
  unfold arr3
  have hz := blk_alloc (blk_new w (.cells #[.int .u64 a, .int .u64 b, .int .u64 c] 35)) (.cells #[.int .u64 0, .int .u64 0, .int .u64 0] 35)
  have hr := blk_new (w.alloc (.cells #[.int .u64 a, .int .u64 b, .int .u64 c] 35)) (.cells #[.int .u64 0, .int .u64 0, .int .u64 0] 35)
  rw [World.size_alloc] at hr
  have c2 : _ = some (Value.int .u64 c) := blk_cell hz 2
  clear hz
  go_enter Try.func43, Try.ntmps43
  go_wp2_with fail
  refine (rsub_c 1 b _ hb d0.1 _).mono ?_
  rintro e w1 ⟨rfl, hk1⟩
  replace c2 := kept_cell hk1 c2
  replace hr := blk_kept hk1 hr
  go_wp2_with fail
  refine (rquot_c 1 _ 998244353 s1.1 (by decide) _).mono ?_
  rintro e w2 ⟨rfl, hk2⟩
  replace c2 := kept_cell hk2 c2
  replace hr := blk_kept hk2 hr
  go_wp2_with fail
  have ks_c2 := fun s => kw_cell s c2
  refine wp_region_kept (by kernel_rfl) (by kernel_rfl) ?_
  repeat (first | go_big_quiet_skip | (go_big_quiet_want; go_big_quiet_op; first | go_big_quiet_on | (apply Exists.intro; refine ⟨fun s => ?_, ?_⟩; (first | (go_at_call 24; exact call_kept (rmul_c 2 _ 998244353 d1.1 (by decide) _)) | (go_at_call 22; exact call_kept (radd_c 2 _ _ d0.1 m1.1 _)) | (go_at_call 23; exact call_kept (rsub_c 2 c _ hc a1.1 _))); go_big_quiet_on)))
  refine wpQuiet_nil ?_
  rintro w3 ⟨⟨_, hk3⟩, rfl⟩
  clear ks_c2
  replace c2 := kept_cell hk3 c2
  replace hr := blk_kept hk3 hr
  go_wp2_with fail
  refine (rmul_c 2 998244353 167772161 (by decide) (by decide) _).mono ?_
  rintro e w4 ⟨rfl, hk4⟩
  replace c2 := kept_cell hk4 c2
  replace hr := blk_kept hk4 hr
  go_wp2_with fail
  refine (rquot_c 2 _ _ s2.1 m2.1 _).mono ?_
  rintro e w5 ⟨rfl, hk5⟩
  replace c2 := kept_cell hk5 c2
  replace hr := blk_kept hk5 hr
  have r0 : w5.cell? ⟨w.heap.size + 1, 0, none⟩ = some (.int .u64 0) := blk_cell hr 0
  have rf0 := blk_frozen hr 0
  have r1 : w5.cell? ⟨w.heap.size + 1, 1, none⟩ = some (.int .u64 0) := blk_cell hr 1
  have rf1 := blk_frozen hr 1
  have r2 : w5.cell? ⟨w.heap.size + 1, 2, none⟩ = some (.int .u64 0) := blk_cell hr 2
  have rf2 := blk_frozen hr 2
  have HK := kept_trans (kept_alloc (kept_alloc (kept_refl w) _) _) (kept_trans hk1 (kept_trans hk2 (kept_trans hk3 (kept_trans hk4 hk5))))
  go_wp2_with fail
  exact bodyPost_ret (v := arr3 (dg0 a) (dg1 a b) (dg2 a b c)) (by simp [results, Try.results43, go_sem, r0, r1, r2, arr3]) rfl ⟨rfl, by go_grown⟩

theorem rjoin_c (a b c : Int) (ha : 0 ≤ a) (hb : 0 ≤ b) (hc : 0 ≤ c) (w : World) : Calls Try.prog 35 #[arr3 a b c] w (Ret (.tuple #[.int .u64 (joinv a b c), .bool (fits a b c)]) w) := by
  have d0 := dg0_bd a
  have d1 := dg1_bd a b
  have d2 := dg2_bd a b c
  cases hf : fits a b c
  · have h1 : joinv a b c = 0 := by simp [joinv, hf]
    have h2 := fits_no hf
    rw [h1]
    clear h1 hf
    unfold arr3
    by_cases h3 : 18479187002 < dg2 a b c * 167772161 + dg1 a b
    · go_enter Try.func35, Try.ntmps35
      go_wp2_with fail
      refine (rmixed_c a b c ha hb hc _).mono ?_
      rintro e w1 ⟨rfl, hk1⟩
      unfold arr3
      have hd := blk_new w1 (.cells #[.int .u64 (dg0 a), .int .u64 (dg1 a b), .int .u64 (dg2 a b c)] 35)
      have c0 : _ = some (Value.int .u64 (dg0 a)) := blk_cell hd 0
      have c1 : _ = some (Value.int .u64 (dg1 a b)) := blk_cell hd 1
      have c2 : _ = some (Value.int .u64 (dg2 a b c)) := blk_cell hd 2
      go_wp2_with fail
      go_ret2
      exact ⟨rfl, kept_alloc (kept_trans (kept_alloc (kept_refl w) _) hk1) _⟩
    · have h4 : 18446744073709551615 - (dg2 a b c * 167772161 + dg1 a b) * 998244353 < dg0 a := by omega
      have h5 : 0 ≤ 18446744073709551615 - (dg2 a b c * 167772161 + dg1 a b) * 998244353 := by omega
      go_enter Try.func35, Try.ntmps35
      go_wp2_with fail
      refine (rmixed_c a b c ha hb hc _).mono ?_
      rintro e w1 ⟨rfl, hk1⟩
      unfold arr3
      have hd := blk_new w1 (.cells #[.int .u64 (dg0 a), .int .u64 (dg1 a b), .int .u64 (dg2 a b c)] 35)
      have c0 : _ = some (Value.int .u64 (dg0 a)) := blk_cell hd 0
      have c1 : _ = some (Value.int .u64 (dg1 a b)) := blk_cell hd 1
      have c2 : _ = some (Value.int .u64 (dg2 a b c)) := blk_cell hd 2
      go_wp2_with fail
      go_ret2
      exact ⟨rfl, kept_alloc (kept_trans (kept_alloc (kept_refl w) _) hk1) _⟩
  · have h1 : joinv a b c = (dg2 a b c * 167772161 + dg1 a b) * 998244353 + dg0 a := by simp only [joinv, hf, if_true, num, high]; omega
    have h2 := fits_yes hf
    have h3 : dg2 a b c * 167772161 + dg1 a b ≤ 18479187002 := by omega
    have h4 : dg0 a ≤ 18446744073709551615 - (dg2 a b c * 167772161 + dg1 a b) * 998244353 := by omega
    rw [h1]
    clear h1 hf
    unfold arr3
    go_enter Try.func35, Try.ntmps35
    go_wp2_with fail
    refine (rmixed_c a b c ha hb hc _).mono ?_
    rintro e w1 ⟨rfl, hk1⟩
    unfold arr3
    have hd := blk_new w1 (.cells #[.int .u64 (dg0 a), .int .u64 (dg1 a b), .int .u64 (dg2 a b c)] 35)
    have c0 : _ = some (Value.int .u64 (dg0 a)) := blk_cell hd 0
    have c1 : _ = some (Value.int .u64 (dg1 a b)) := blk_cell hd 1
    have c2 : _ = some (Value.int .u64 (dg2 a b c)) := blk_cell hd 2
    go_wp2_with fail
    go_ret2
    exact ⟨rfl, kept_alloc (kept_trans (kept_alloc (kept_refl w) _) hk1) _⟩
end Go.Proofs.Ytjfpcggpdbkjgaa
