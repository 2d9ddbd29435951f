/-
  Layer 2's statements: the walks.
-/
import Derived.Test.YtkielaonclabbaaWNtt6
import Derived.Test.YtkielaonclabbaaWSame
import Derived.Test.YtkielaonclabbaaEq
import Derived.Laws.AppendOwnNone
namespace Go.Proofs.Ytkielaonclabbaa
open Go.RowKit BG
attribute [local go_sem ↓] Go.wp_at_zero Go.wp_at_succ
set_option linter.unusedVariables false

theorem u64_all {xs : List Int} (h : ∀ z ∈ xs, 0 ≤ z) : U64 xs := by
  intro j
  unfold nth
  rw [List.getD_eq_getElem?_getD]
  by_cases hj : j < xs.length
  · rw [List.getElem?_eq_getElem hj]; exact h _ (List.getElem_mem _)
  · rw [List.getElem?_eq_none (by omega)]; exact Int.le_refl 0
theorem sameL_refl (xs : List Int) : sameL xs xs = true := by simp [sameL]
theorem fwdv_length (k : Int) (xs : List Int) : (fwdv k xs).length = if amiss k xs.length = 0 then xs.length else 0 := by unfold fwdv; split <;> simp [mk_length]
theorem invv_length (k : Int) (xs : List Int) : (invv k xs).length = if amiss k xs.length = 0 then xs.length else 0 := by unfold invv; split <;> simp [mk_length]
theorem u64_fwd (k : Int) (xs : List Int) : U64 (fwdv k xs) := by
  unfold fwdv; split
  · exact u64_mk fun j _ => dft_nonneg _ _ _ _ _
  · exact u64_all (by simp)
theorem u64_inv (k : Int) (xs : List Int) : U64 (invv k xs) := by
  unfold invv; split
  · exact u64_mk fun j _ => idft_nonneg _ _ _ _ _
  · exact u64_all (by simp)
theorem inv_fwd {k : Int} {xs : List Int} (h : amiss k xs.length = 0) : invv k (fwdv k xs) = mk xs.length fun j => of k (nth xs j) := by
  obtain ⟨hp, hlg⟩ := amiss_zero h
  obtain ⟨hL, hx⟩ := len_log h
  rw [fwdv_eq h]
  unfold invv
  rw [mk_length, if_pos h]
  refine mk_congr fun t ht => ?_
  have h1 := idft_dft (rootOf hp hL) (rootm_ne hp hL) (pow_ne hp hL) (nth xs) t (by rw [← hx]; exact ht)
  rw [← hx] at h1
  rw [← h1]
  unfold idft
  rw [dft_cong (y := fun j => dft k xs.length (nth xs) (rootm k (lgv xs.length)) j) (fun j hj => by rw [nth_mk hj]; exact Cong.refl _ _) (Cong.refl _ _)]
theorem fwd_inv {k : Int} {xs : List Int} (h : amiss k xs.length = 0) : fwdv k (invv k xs) = mk xs.length fun j => of k (nth xs j) := by
  obtain ⟨hp, hlg⟩ := amiss_zero h
  obtain ⟨hL, hx⟩ := len_log h
  have hi : invv k xs = mk xs.length (idft k xs.length (nth xs) (rootm k (lgv xs.length))) := by unfold invv; rw [if_pos h]
  rw [hi]
  unfold fwdv
  rw [mk_length, if_pos h]
  refine mk_congr fun t ht => ?_
  have h1 := dft_idft (rootOf hp hL) (rootm_ne hp hL) (pow_ne hp hL) (nth xs) t (by rw [← hx]; exact ht)
  rw [← hx] at h1
  rw [← h1]
  exact dft_cong (y := fun j => idft k xs.length (nth xs) (rootm k (lgv xs.length)) j) (fun j hj => by rw [nth_mk hj]; exact Cong.refl _ _) (Cong.refl _ _) t
theorem av_a2 : amiss 0 (([1, 2] : List Int).length : Nat) = 0 := by decide +kernel
theorem av_root : rootm 0 1 = 998244352 := root_0_1
theorem av_f : fwdv 0 [1, 2] = [3, 998244352] := by
  rw [fwdv_eq av_a2, show lgv (([1, 2] : List Int).length : Nat) = 1 by decide +kernel, av_root]
  decide +kernel
theorem av_i : invv 0 [3, 998244352] = [1, 2] := by
  rw [← av_f, inv_fwd av_a2]
  decide +kernel
theorem av_ce : cycErr 0 ([1, 2] : List Int).length ([3, 4] : List Int).length = 0 := by decide +kernel
theorem av_c : cycv 0 [1, 2] [3, 4] = [11, 10] := by
  unfold cycv
  rw [if_pos av_ce]
  decide +kernel
theorem av_p : amiss 3 (([] : List Int).length : Nat) = 20 := by decide +kernel
theorem av_l : amiss 0 (([1, 2, 3] : List Int).length : Nat) = 21 := by decide +kernel
theorem av_8 : Ltuple 8 = .tuple #[.int .i64 3, .bool true] := by
  unfold Ltuple; rw [show lgv 8 = 3 by decide +kernel, show hasLog 8 = true by decide +kernel]; rfl
theorem av_0 : Ltuple 0 = .tuple #[.int .i64 0, .bool false] := by
  unfold Ltuple; rw [show lgv 0 = 0 by decide +kernel, show hasLog 0 = false by decide +kernel]; rfl
set_option maxHeartbeats 2000000 in
theorem alive02_c (w : World) : Calls Try.prog 12 #[] w (Ret (.bool true) w) := by
  have u12 : U64 [1, 2] := u64_all (by decide)
  have u34 : U64 [3, 4] := u64_all (by decide)
  have u123 : U64 [1, 2, 3] := u64_all (by decide)
  have u0 : U64 [] := u64_all (by simp)
  have uf : U64 [3, 998244352] := u64_all (by decide)
  have L1 := log_c 8
  have L2 := log_c 0
  rw [av_8] at L1
  rw [av_0] at L2
  go_enter Try.func12, Try.ntmps12
  have C1 := forward_c 0 (some ⟨w.heap.size, 0, none⟩) 2 [1, 2] u12 _ (blk_rd (blk_new w (.cells #[.int .u64 1, .int .u64 2] 32)) (by decide))
  rw [av_a2, av_f] at C1
  go_wp2_with fail
  refine C1.mono ?_
  rintro e w1 ⟨v1, rfl, hown1, hk1⟩
  clear C1
  obtain ⟨A1, c1, rfl, _, _, r1⟩ := hown1.rd
  clear hown1
  have hk : Kept w w1 := kept_trans (kept_alloc (kept_refl w) _) hk1
  clear hk1
  have C2 := inverse_c 0 A1 c1 [3, 998244352] uf _ r1
  rw [av_i, show amiss 0 (([3, 998244352] : List Int).length : Nat) = 0 by decide +kernel] at C2
  go_wp2_with fail
  refine C2.mono ?_
  rintro e w2 ⟨v2, rfl, hown2, hk2⟩
  clear C2
  obtain ⟨A2, c2, rfl, _, _, r2⟩ := hown2.rd
  clear hown2
  replace r1 := r1.kept hk2
  replace hk := kept_trans hk hk2
  clear hk2
  have C3 := cyclic_c 0 (some ⟨w2.heap.size, 0, none⟩) (some ⟨w2.heap.size + 1, 0, none⟩) 2 2 [1, 2] [3, 4] u12 u34 _ (blk_rd (blk_alloc (blk_new w2 (.cells #[.int .u64 1, .int .u64 2] 32)) _) (by decide)) (blk_rd (blk_new1 w2 _ (.cells #[.int .u64 3, .int .u64 4] 32)) (by decide))
  rw [av_ce, av_c] at C3
  go_wp2_with fail
  refine C3.mono ?_
  rintro e w3 ⟨v3, rfl, hown3, hk3⟩
  clear C3
  obtain ⟨A3, c3, rfl, _, _, r3⟩ := hown3.rd
  clear hown3
  have hk3 : Kept w2 w3 := kept_trans (kept_alloc (kept_alloc (kept_refl w2) _) _) hk3
  replace r1 := r1.kept hk3
  replace r2 := r2.kept hk3
  replace hk := kept_trans hk hk3
  clear hk3
  have C4 := forward_c 3 none 0 [] u0 w3 (Rd.nil _ _ _)
  rw [av_p] at C4
  go_wp2_with fail
  refine C4.mono ?_
  rintro e w4 ⟨v4, rfl, hown4, hk4⟩
  clear C4 hown4
  have C5 := forward_c 0 (some ⟨w4.heap.size, 0, none⟩) 3 [1, 2, 3] u123 _ (blk_rd (blk_new w4 (.cells #[.int .u64 1, .int .u64 2, .int .u64 3] 32)) (by decide))
  rw [av_l] at C5
  go_wp2_with fail
  refine C5.mono ?_
  rintro e w5 ⟨v5, rfl, hown5, hk5⟩
  clear C5 hown5
  go_wp2_with fail
  refine (L1 _).mono ?_
  rintro e w6 ⟨rfl, hk6⟩
  go_wp2_with fail
  refine (L2 _).mono ?_
  rintro e w7 ⟨rfl, hk7⟩
  have hk47 : Kept w3 w7 := kept_trans hk4 (kept_trans (kept_alloc (kept_refl w4) _) (kept_trans hk5 (kept_trans hk6 hk7)))
  replace r1 := r1.kept hk47
  replace r2 := r2.kept hk47
  replace r3 := r3.kept hk47
  replace hk := kept_trans hk hk47
  clear hk4 hk5 hk6 hk7 hk47 L1 L2 u12 u34 u123 u0 uf
  have S := same_c A1 (some ⟨w7.heap.size, 0, none⟩) c1 2 [3, 998244352] [3, 998244352] _ (r1.kept (kept_alloc (kept_refl _) (.cells #[.int .u64 3, .int .u64 998244352] 32))) (blk_rd (blk_new w7 (.cells #[.int .u64 3, .int .u64 998244352] 32)) (by decide))
  rw [sameL_refl] at S
  go_wp2_with fail
  refine S.mono ?_
  rintro e w8 ⟨rfl, hk8⟩
  clear S
  have hkx : Kept w7 w8 := kept_trans (kept_alloc (kept_refl _) _) hk8
  replace r1 := r1.kept hkx
  replace r2 := r2.kept hkx
  replace r3 := r3.kept hkx
  replace hk := kept_trans hk hkx
  clear hkx hk8
  have S := same_c A2 (some ⟨w8.heap.size, 0, none⟩) c2 2 [1, 2] [1, 2] _ (r2.kept (kept_alloc (kept_refl _) (.cells #[.int .u64 1, .int .u64 2] 32))) (blk_rd (blk_new w8 (.cells #[.int .u64 1, .int .u64 2] 32)) (by decide))
  rw [sameL_refl] at S
  go_wp2_with fail
  refine S.mono ?_
  rintro e w9 ⟨rfl, hk9⟩
  clear S
  have hkx : Kept w8 w9 := kept_trans (kept_alloc (kept_refl _) _) hk9
  replace r1 := r1.kept hkx
  replace r2 := r2.kept hkx
  replace r3 := r3.kept hkx
  replace hk := kept_trans hk hkx
  clear hkx hk9
  have S := same_c A3 (some ⟨w9.heap.size, 0, none⟩) c3 2 [11, 10] [11, 10] _ (r3.kept (kept_alloc (kept_refl _) (.cells #[.int .u64 11, .int .u64 10] 32))) (blk_rd (blk_new w9 (.cells #[.int .u64 11, .int .u64 10] 32)) (by decide))
  rw [sameL_refl] at S
  go_wp2_with fail
  refine S.mono ?_
  rintro e w10 ⟨rfl, hk10⟩
  clear S
  have hkx : Kept w9 w10 := kept_trans (kept_alloc (kept_refl _) _) hk10
  replace r1 := r1.kept hkx
  replace r2 := r2.kept hkx
  replace r3 := r3.kept hkx
  replace hk := kept_trans hk hkx
  clear hkx hk10
  go_wp2_with fail
  go_ret
  exact ⟨rfl, hk⟩
theorem shl_log {n : Int} (h : hasLog n = true) : wrap64 ((2 : Int) ^ lgv n) = n := by
  obtain ⟨h1, h2⟩ := log_some h
  rw [shl_at _ h1]; exact h2.symm
theorem nttLogs_w (n : Int) (w : World) : Calls Try.prog 3 #[.int .i64 n] w (Ret (.bool true) w) := by
  have L1 := log_c n
  have L2 := rlog_c n
  cases h : hasLog n
  · unfold Ltuple at L1 L2
    rw [h] at L1 L2
    generalize lgv n = l at *
    clear h
    go_enter Try.func3, Try.ntmps3
    go_wp2_with fail
    refine (L1 _).mono ?_
    rintro e w1 ⟨rfl, hk1⟩
    go_wp2_with fail
    refine (L2 _).mono ?_
    rintro e w2 ⟨rfl, hk2⟩
    go_wp2_with fail
    refine (alive02_c _).mono ?_
    rintro e w3 ⟨rfl, hk3⟩
    go_wp2_with fail
    go_ret
    exact ⟨rfl, kept_trans hk1 (kept_trans hk2 hk3)⟩
  · have hs := shl_log h
    have hl := (log_some h).1
    unfold Ltuple at L1 L2
    rw [h] at L1 L2
    generalize lgv n = l at *
    clear h
    go_enter Try.func3, Try.ntmps3
    go_wp2_with fail
    refine (L1 _).mono ?_
    rintro e w1 ⟨rfl, hk1⟩
    go_wp2_with fail
    refine (L2 _).mono ?_
    rintro e w2 ⟨rfl, hk2⟩
    go_wp2_with fail
    refine (alive02_c _).mono ?_
    rintro e w3 ⟨rfl, hk3⟩
    go_wp2_with fail
    go_ret
    exact ⟨rfl, kept_trans hk1 (kept_trans hk2 hk3)⟩
theorem nttForward_w (k : Int) (A : Option Addr) (cap : Nat) (xs : List Int) (hu : U64 xs) (w : World) (hr : Rd .u64 w A xs) : Calls Try.prog 4 #[.int .i64 k, .slice A xs.length cap] w (Ret (.bool true) w) := by
  have hm := hr.1
  by_cases h : xs.length ≤ 200
  · have P1 := forward_c k A cap xs hu w hr
    have P2 := fun w1 (r : Rd .u64 w1 A xs) => rforward_c k A cap xs hu w1 r
    generalize amiss k xs.length = er at *
    go_enter Try.func4, Try.ntmps4
    go_wp2_with fail
    refine P1.mono ?_
    rintro e w1 ⟨v1, rfl, hown1, hk1⟩
    clear P1
    have P2 := P2 w1 (hr.kept hk1)
    go_wp2_with fail
    refine P2.mono ?_
    rintro e w2 ⟨v2, rfl, hown2, hk2⟩
    clear P2
    obtain ⟨A1, c1, rfl, _, _, r1⟩ := (hown1.kept hk2).rd
    obtain ⟨A2, c2, rfl, _, _, r2⟩ := hown2.rd
    clear hown1 hown2
    go_wp2_with fail
    refine (alive02_c _).mono ?_
    rintro e w3 ⟨rfl, hk3⟩
    have S := same_c A1 A2 c1 c2 _ _ w3 (r1.kept hk3) (r2.kept hk3)
    rw [sameL_refl] at S
    go_wp2_with fail
    refine S.mono ?_
    rintro e w4 ⟨rfl, hk4⟩
    clear S
    go_wp2_with fail
    go_ret
    exact ⟨rfl, kept_trans hk1 (kept_trans hk2 (kept_trans hk3 hk4))⟩
  · have h' : 200 < xs.length := by omega
    clear h
    go_enter Try.func4, Try.ntmps4
    go_wp2_with fail
    refine (alive02_c _).mono ?_
    rintro e w1 ⟨rfl, hk1⟩
    go_wp2_with fail
    go_ret
    exact ⟨rfl, hk1⟩
theorem nttInverse_w (k : Int) (A : Option Addr) (cap : Nat) (xs : List Int) (hu : U64 xs) (w : World) (hr : Rd .u64 w A xs) : Calls Try.prog 5 #[.int .i64 k, .slice A xs.length cap] w (Ret (.bool true) w) := by
  have hm := hr.1
  by_cases h : xs.length ≤ 200
  · have P1 := inverse_c k A cap xs hu w hr
    have P2 := fun w1 (r : Rd .u64 w1 A xs) => rinverse_c k A cap xs hu w1 r
    generalize amiss k xs.length = er at *
    go_enter Try.func5, Try.ntmps5
    go_wp2_with fail
    refine P1.mono ?_
    rintro e w1 ⟨v1, rfl, hown1, hk1⟩
    clear P1
    have P2 := P2 w1 (hr.kept hk1)
    go_wp2_with fail
    refine P2.mono ?_
    rintro e w2 ⟨v2, rfl, hown2, hk2⟩
    clear P2
    obtain ⟨A1, c1, rfl, _, _, r1⟩ := (hown1.kept hk2).rd
    obtain ⟨A2, c2, rfl, _, _, r2⟩ := hown2.rd
    clear hown1 hown2
    go_wp2_with fail
    refine (alive02_c _).mono ?_
    rintro e w3 ⟨rfl, hk3⟩
    have S := same_c A1 A2 c1 c2 _ _ w3 (r1.kept hk3) (r2.kept hk3)
    rw [sameL_refl] at S
    go_wp2_with fail
    refine S.mono ?_
    rintro e w4 ⟨rfl, hk4⟩
    clear S
    go_wp2_with fail
    go_ret
    exact ⟨rfl, kept_trans hk1 (kept_trans hk2 (kept_trans hk3 hk4))⟩
  · have h' : 200 < xs.length := by omega
    clear h
    go_enter Try.func5, Try.ntmps5
    go_wp2_with fail
    refine (alive02_c _).mono ?_
    rintro e w1 ⟨rfl, hk1⟩
    go_wp2_with fail
    go_ret
    exact ⟨rfl, hk1⟩
end Go.Proofs.Ytkielaonclabbaa
