/-
  Layer 10's statements: the walks.
-/
import Derived.Test.YtobailigphmopaaLaw10
import Derived.Test.YtobailigphmopaaLaw10P
namespace Go.Proofs.Ytobailigphmopaa
open Go.RowKit BG
attribute [local go_sem ↓] Go.wp_at_zero Go.wp_at_succ
set_option linter.unusedVariables false

set_option maxRecDepth 100000 in
set_option maxHeartbeats 8000000 in
theorem wildSizes_w (A : Option Addr) (cap n : Nat) (xs : List Int) (K : Int) (s : ByteArray) (z0 z1 z2 : Int) (hl : xs.length = 4 * n) (hn : n ≤ 9223372036854775807) (hs : s.size ≤ 9223372036854775807) (hu : U64 xs) (w : World) (hr : 4 * n ≤ 9223372036854775807 → Rd .u64 w A xs) : Calls Try.prog 7 #[leafV A n cap K, .string s, .agg #[.int .i64 z0, .int .i64 z1, .int .i64 z2]] w (Ret (.bool true) w) := by
  have ka := kept_alloc (kept_alloc (kept_refl w) (.cells #[.slice A n cap, .int .i64 K] 27)) (.cells #[.int .i64 z0, .int .i64 z1, .int .i64 z2] 44)
  have hb := blk_alloc (blk_new w (.cells #[.slice A n cap, .int .i64 K] 27)) (.cells #[.int .i64 z0, .int .i64 z1, .int .i64 z2] 44)
  have hz := blk_new1 w (.cells #[.slice A n cap, .int .i64 K] 27) (.cells #[.int .i64 z0, .int .i64 z1, .int .i64 z2] 44)
  have FW := few10_c A cap n K s hn hs ((w.alloc (.cells #[.slice A n cap, .int .i64 K] 27)).alloc (.cells #[.int .i64 z0, .int .i64 z1, .int .i64 z2] 44))
  by_cases hfew : n ≤ 100 ∧ s.size ≤ 300
  · have hr := hr (by omega)
    rw [show few10 n s.size = true by unfold few10; simp [hfew.1, hfew.2]] at FW
    go_enter Try.func7, Try.ntmps7
    go_wp2_with fail
    refine FW.mono ?_
    rintro e w1 ⟨rfl, hk1⟩
    replace hb := blk_kept hk1 hb
    replace hz := blk_kept hk1 hz
    have hk := kept_trans ka hk1
    have rd := hr.kept hk
    have hlt0 := blk_lt hz
    have hlt1 := blk_lt hb
    clear FW ka hk1 hr
    have c0 : w1.cell? ⟨w.heap.size, 0, none⟩ = some (.slice A n cap) := blk_cell hb 0
    have c1 : w1.cell? ⟨w.heap.size, 1, none⟩ = some (.int .i64 K) := blk_cell hb 1
    have x0 : w1.cell? ⟨w.heap.size + 1, 0, none⟩ = some (.int .i64 z0) := blk_cell hz 0
    have x1 : w1.cell? ⟨w.heap.size + 1, 1, none⟩ = some (.int .i64 z1) := blk_cell hz 1
    have x2 : w1.cell? ⟨w.heap.size + 1, 2, none⟩ = some (.int .i64 z2) := blk_cell hz 2
    have S1 := fun w1 h => sums_c A cap n xs K s z0 hu hl (by omega) w1 h
    have S2 := fun w1 h => sums_c A cap n xs z2 s z1 hu hl (by omega) w1 h
    have hL1 : sumsE xs n K s.size z0 = 0 → sumsL xs n K s z0 = resL xs n s := fun h => by unfold sumsL; rw [h, if_pos rfl]
    have hL2 : sumsE xs n z2 s.size z1 = 0 → sumsL xs n z2 s z1 = resL xs n s := fun h => by unfold sumsL; rw [h, if_pos rfl]
    have H1 := Lib.hid hL1
    have H2 := Lib.hid hL2
    clear hL1 hL2
    generalize sumsL xs n K s z0 = sl at *
    generalize sumsN xs n K s.size z0 = sn at *
    generalize sumsE xs n K s.size z0 = se at *
    generalize sumsL xs n z2 s z1 = tl at *
    generalize sumsN xs n z2 s.size z1 = tn at *
    generalize sumsE xs n z2 s.size z1 = te at *
    generalize resL xs n s = rl at *
    have kb := kept_alloc (kept_refl w1) (.cells #[.slice A n cap, .int .i64 z2] 27)
    have hb2 := blk_new w1 (.cells #[.slice A n cap, .int .i64 z2] 27)
    go_wp2_with fail
    refine (S1 _ (rd.kept kb)).mono ?_
    rintro e w2 ⟨A2, cp2, rfl, rd2, hk2, _, _, _⟩
    have hkb := kept_trans kb hk2
    replace hb2 := blk_kept hk2 hb2
    replace hz := blk_kept hkb hz
    replace hk := kept_trans hk hkb
    replace rd := rd.kept hkb
    clear c0 c1 x0 x1 x2 hk2 S1 kb hkb hb
    have c0 : w2.cell? ⟨w1.heap.size, 0, none⟩ = some (.slice A n cap) := blk_cell hb2 0
    have c1 : w2.cell? ⟨w1.heap.size, 1, none⟩ = some (.int .i64 z2) := blk_cell hb2 1
    have x1 : w2.cell? ⟨w.heap.size + 1, 1, none⟩ = some (.int .i64 z1) := blk_cell hz 1
    generalize w1.heap.size = g at *
    go_wp2_with fail
    refine (S2 _ rd).mono ?_
    rintro e w3 ⟨A3, cp3, rfl, rd3, hk3, _, _, _⟩
    replace rd2 := rd2.kept hk3
    replace hk := kept_trans hk hk3
    clear c0 c1 x1 hk3 S2 hb2 hz rd
    go_wp2_with fail
    refine (alive10_c _).mono ?_
    rintro e w4 ⟨rfl, hk4⟩
    replace rd2 := rd2.kept hk4
    replace rd3 := rd3.kept hk4
    replace hk := kept_trans hk hk4
    clear hk4
    by_cases hse : se = 0
    · have e1 := H1.out hse
      subst hse
      by_cases hte : te = 0
      · have e2 := H2.out hte
        subst hte e1 e2
        have S := same_c A2 A3 cp2 cp3 _ _ _ rd2 rd3
        rw [sameL_refl] at S
        go_wp2_with fail
        refine S.mono ?_
        rintro e w5 ⟨rfl, hk5⟩
        clear S
        go_wp2_with fail
        go_ret
        exact ⟨by simp, kept_trans hk hk5⟩
      · have hd : (te == 0) = false := by rw [beq_eq_false_iff_ne]; exact hte
        have hd2 : (te != 0) = true := by rw [bne_iff_ne]; exact hte
        clear H1 H2 e1
        go_wp2_with fail
        go_ret
        exact ⟨by simp, hk⟩
    · have hd : (se == 0) = false := by rw [beq_eq_false_iff_ne]; exact hse
      have hd2 : (se != 0) = true := by rw [bne_iff_ne]; exact hse
      clear H1 H2
      go_wp2_with fail
      go_ret
      exact ⟨by simp, hk⟩
  · rw [show few10 n s.size = false by unfold few10; simp; omega] at FW
    go_enter Try.func7, Try.ntmps7
    go_wp2_with fail
    refine FW.mono ?_
    rintro e w1 ⟨rfl, hk1⟩
    go_wp2_with fail
    refine (alive10_c _).mono ?_
    rintro e w2 ⟨rfl, hk2⟩
    go_wp2_with fail
    go_ret
    exact ⟨rfl, kept_trans ka (kept_trans hk1 hk2)⟩
end Go.Proofs.Ytobailigphmopaa
