/-
  Layer 3 (crt, beagleref03): the functions, each by a contract.
-/
import Derived.Test.YthbbkmkaopgmdaaWRes
import Derived.Test.YthbbkmkaopgmdaaCrtP
namespace Go.Proofs.Ythbbkmkaopgmdaa
open Go.RowKit BG
attribute [local go_sem ↓] Go.wp_at_zero Go.wp_at_succ
set_option linter.unusedVariables false
/-- Three residues, as the program has them. -/
abbrev arr3 (a b c : Int) : Value := .agg #[.int .u64 a, .int .u64 b, .int .u64 c]
theorem mixed_c (a b c : Int) (ha : 0 ≤ a) (hb : 0 ≤ b) (hc : 0 ≤ c) (w : World) : Calls Try.prog 79 #[arr3 a b c] w (Ret (arr3 (dg0 a) (dg1 a b) (dg2 a b c)) w) := by
  have p0 : pr 0 = 998244353 := pr0
  have p1 : pr 1 = 167772161 := pr1
  have i1 := invm_bd 1 998244353
  have i2 := invm_bd 2 (mulm 2 998244353 167772161)
  have d0 := of_bd 0 a
  have s1 := subm_bd 1 b (of 0 a)
  have m1 := mulm_bd 1 (subm 1 b (of 0 a)) (invm 1 998244353)
  have m2 := mulm_bd 2 998244353 167772161
  have s2 := subm_bd 2 c (of 0 a)
  have m3 := mulm_bd 2 (mulm 1 (subm 1 b (of 0 a)) (invm 1 998244353)) 998244353
  have s3 := subm_bd 2 (subm 2 c (of 0 a)) (mulm 2 (mulm 1 (subm 1 b (of 0 a)) (invm 1 998244353)) 998244353)
  have hz := blk_alloc (blk_new w (.cells #[.int .u64 a, .int .u64 b, .int .u64 c] 116)) (.cells #[.int .u64 0, .int .u64 0, .int .u64 0] 116)
  have hr := blk_new (w.alloc (.cells #[.int .u64 a, .int .u64 b, .int .u64 c] 116)) (.cells #[.int .u64 0, .int .u64 0, .int .u64 0] 116)
  rw [World.size_alloc] at hr
  have c0 : _ = some (Value.int .u64 a) := blk_cell hz 0
  have c1 : _ = some (Value.int .u64 b) := blk_cell hz 1
  have c2 : _ = some (Value.int .u64 c) := blk_cell hz 2
  have hlt : w.heap.size + 1 < ((w.alloc (.cells #[.int .u64 a, .int .u64 b, .int .u64 c] 116)).alloc (.cells #[.int .u64 0, .int .u64 0, .int .u64 0] 116)).heap.size := by simp
  clear hz
  unfold arr3
  go_enter Try.func79, Try.ntmps79
  go_wp2_with fail
  refine (prime_c 0 _).mono ?_
  rintro e w1 ⟨rfl, hk1⟩
  replace c0 := kept_cell hk1 c0
  replace c1 := kept_cell hk1 c1
  replace c2 := kept_cell hk1 c2
  replace hr := blk_kept hk1 hr
  go_wp2_with fail
  refine (prime_c 1 _).mono ?_
  rintro e w2 ⟨rfl, hk2⟩
  replace c0 := kept_cell hk2 c0
  replace c1 := kept_cell hk2 c1
  replace c2 := kept_cell hk2 c2
  replace hr := blk_kept hk2 hr
  go_wp2_with fail
  refine (of_c 0 a ha _).mono ?_
  rintro e w3 ⟨rfl, hk3⟩
  replace c0 := kept_cell hk3 c0
  replace c1 := kept_cell hk3 c1
  replace c2 := kept_cell hk3 c2
  replace hr := blk_kept hk3 hr
  go_wp2_with fail
  refine (inv_c 1 998244353 (by decide) _).mono ?_
  rintro e w4 ⟨rfl, hk4⟩
  replace c0 := kept_cell hk4 c0
  replace c1 := kept_cell hk4 c1
  replace c2 := kept_cell hk4 c2
  replace hr := blk_kept hk4 hr
  go_wp2_with fail
  refine (sub_c 1 b _ hb d0.1 _).mono ?_
  rintro e w5 ⟨rfl, hk5⟩
  replace c0 := kept_cell hk5 c0
  replace c1 := kept_cell hk5 c1
  replace c2 := kept_cell hk5 c2
  replace hr := blk_kept hk5 hr
  go_wp2_with fail
  refine (mul_c 1 _ _ s1.1 i1.1 _).mono ?_
  rintro e w6 ⟨rfl, hk6⟩
  replace c0 := kept_cell hk6 c0
  replace c1 := kept_cell hk6 c1
  replace c2 := kept_cell hk6 c2
  replace hr := blk_kept hk6 hr
  go_wp2_with fail
  refine (mul_c 2 998244353 167772161 (by decide) (by decide) _).mono ?_
  rintro e w7 ⟨rfl, hk7⟩
  replace c0 := kept_cell hk7 c0
  replace c1 := kept_cell hk7 c1
  replace c2 := kept_cell hk7 c2
  replace hr := blk_kept hk7 hr
  go_wp2_with fail
  refine (inv_c 2 _ m2.1 _).mono ?_
  rintro e w8 ⟨rfl, hk8⟩
  replace c0 := kept_cell hk8 c0
  replace c1 := kept_cell hk8 c1
  replace c2 := kept_cell hk8 c2
  replace hr := blk_kept hk8 hr
  go_wp2_with fail
  refine (sub_c 2 c _ hc d0.1 _).mono ?_
  rintro e w9 ⟨rfl, hk9⟩
  replace c0 := kept_cell hk9 c0
  replace c1 := kept_cell hk9 c1
  replace c2 := kept_cell hk9 c2
  replace hr := blk_kept hk9 hr
  go_wp2_with fail
  refine (mul_c 2 _ 998244353 m1.1 (by decide) _).mono ?_
  rintro e w10 ⟨rfl, hk10⟩
  replace c0 := kept_cell hk10 c0
  replace c1 := kept_cell hk10 c1
  replace c2 := kept_cell hk10 c2
  replace hr := blk_kept hk10 hr
  go_wp2_with fail
  refine (sub_c 2 _ _ s2.1 m3.1 _).mono ?_
  rintro e w11 ⟨rfl, hk11⟩
  replace c0 := kept_cell hk11 c0
  replace c1 := kept_cell hk11 c1
  replace c2 := kept_cell hk11 c2
  replace hr := blk_kept hk11 hr
  go_wp2_with fail
  refine (mul_c 2 _ _ s3.1 i2.1 _).mono ?_
  rintro e w12 ⟨rfl, hk12⟩
  replace c0 := kept_cell hk12 c0
  replace c1 := kept_cell hk12 c1
  replace c2 := kept_cell hk12 c2
  replace hr := blk_kept hk12 hr
  have r0 : w12.cell? ⟨w.heap.size + 1, 0, none⟩ = some (.int .u64 0) := blk_cell hr 0
  have rf0 := blk_frozen hr 0
  have r1 : w12.cell? ⟨w.heap.size + 1, 1, none⟩ = some (.int .u64 0) := blk_cell hr 1
  have rf1 := blk_frozen hr 1
  have r2 : w12.cell? ⟨w.heap.size + 1, 2, none⟩ = some (.int .u64 0) := blk_cell hr 2
  have rf2 := blk_frozen hr 2
  have HK := kept_trans (kept_alloc (kept_alloc (kept_refl w) _) _) (kept_trans hk1 (kept_trans hk2 (kept_trans hk3 (kept_trans hk4 (kept_trans hk5 (kept_trans hk6 (kept_trans hk7 (kept_trans hk8 (kept_trans hk9 (kept_trans hk10 (kept_trans hk11 hk12)))))))))))
  go_wp2_with fail
  exact bodyPost_ret (v := arr3 (dg0 a) (dg1 a b) (dg2 a b c)) (by simp [results, Try.results79, go_sem, r0, r1, r2, arr3]; exact ⟨rfl, rfl, rfl⟩) rfl ⟨rfl, by go_grown⟩

theorem join_c (a b c : Int) (ha : 0 ≤ a) (hb : 0 ≤ b) (hc : 0 ≤ c) (w : World) : Calls Try.prog 74 #[arr3 a b c] w (Ret (.tuple #[.int .u64 (joinv a b c), .bool (fits a b c)]) w) := by
  have p0 : pr 0 = 998244353 := pr0
  have p1 : pr 1 = 167772161 := pr1
  have d0 := dg0_bd a
  have d1 := dg1_bd a b
  have d2 := dg2_bd a b c
  cases hf : fits a b c
  · have h1 : joinv a b c = 0 := by simp [joinv, hf]
    have h2 : (18446744073709551615 - dg0 a) / 998244353 < dg1 a b + dg2 a b c * 167772161 := by
      have := fits_no hf
      omega
    rw [h1]
    clear h1 hf
    unfold arr3
    go_enter Try.func74, Try.ntmps74
    go_wp2_with fail
    refine (mixed_c a b c ha hb hc _).mono ?_
    rintro e w1 ⟨rfl, hk1⟩
    unfold arr3
    have hd := blk_new w1 (.cells #[.int .u64 (dg0 a), .int .u64 (dg1 a b), .int .u64 (dg2 a b c)] 116)
    go_wp2_with fail
    refine (prime_c 0 _).mono ?_
    rintro e w2 ⟨rfl, hk2⟩
    replace hd := blk_kept hk2 hd
    go_wp2_with fail
    refine (prime_c 1 _).mono ?_
    rintro e w3 ⟨rfl, hk3⟩
    replace hd := blk_kept hk3 hd
    have c0 : w3.cell? ⟨w1.heap.size, 0, none⟩ = some (.int .u64 (dg0 a)) := blk_cell hd 0
    have c1 : w3.cell? ⟨w1.heap.size, 1, none⟩ = some (.int .u64 (dg1 a b)) := blk_cell hd 1
    have c2 : w3.cell? ⟨w1.heap.size, 2, none⟩ = some (.int .u64 (dg2 a b c)) := blk_cell hd 2
    go_wp2_with fail
    go_ret2
    exact ⟨rfl, kept_trans (kept_alloc (kept_trans (kept_alloc (kept_refl w) _) hk1) _) (kept_trans hk2 hk3)⟩
  · have h1 : joinv a b c = dg0 a + (dg1 a b + dg2 a b c * 167772161) * 998244353 := by simp [joinv, hf, num, high]
    have h2 : dg1 a b + dg2 a b c * 167772161 ≤ (18446744073709551615 - dg0 a) / 998244353 := by
      have := fits_yes hf
      omega
    have h3 : dg0 a + (dg1 a b + dg2 a b c * 167772161) * 998244353 ≤ 18446744073709551615 := fits_yes hf
    rw [h1]
    clear h1 hf
    unfold arr3
    go_enter Try.func74, Try.ntmps74
    go_wp2_with fail
    refine (mixed_c a b c ha hb hc _).mono ?_
    rintro e w1 ⟨rfl, hk1⟩
    unfold arr3
    have hd := blk_new w1 (.cells #[.int .u64 (dg0 a), .int .u64 (dg1 a b), .int .u64 (dg2 a b c)] 116)
    go_wp2_with fail
    refine (prime_c 0 _).mono ?_
    rintro e w2 ⟨rfl, hk2⟩
    replace hd := blk_kept hk2 hd
    go_wp2_with fail
    refine (prime_c 1 _).mono ?_
    rintro e w3 ⟨rfl, hk3⟩
    replace hd := blk_kept hk3 hd
    have c0 : w3.cell? ⟨w1.heap.size, 0, none⟩ = some (.int .u64 (dg0 a)) := blk_cell hd 0
    have c1 : w3.cell? ⟨w1.heap.size, 1, none⟩ = some (.int .u64 (dg1 a b)) := blk_cell hd 1
    have c2 : w3.cell? ⟨w1.heap.size, 2, none⟩ = some (.int .u64 (dg2 a b c)) := blk_cell hd 2
    go_wp2_with fail
    go_ret2
    exact ⟨rfl, kept_trans (kept_alloc (kept_trans (kept_alloc (kept_refl w) _) hk1) _) (kept_trans hk2 hk3)⟩
end Go.Proofs.Ythbbkmkaopgmdaa
