/-
  Layer 21's statements: the walks.
-/
import Derived.Test.YtkifafdbobhlpaaWRCells
import Derived.Test.YtkifafdbobhlpaaWPlaces
namespace Go.Proofs.Ytkifafdbobhlpaa
open Go.RowKit BG
attribute [local go_sem ↓] Go.wp_at_zero Go.wp_at_succ
set_option linter.unusedVariables false

theorem eq4 (a b c d e f g h : Int) (w : World) : (Op.equalIn 10000 27 (.agg #[.int .i64 a, .int .i64 b, .int .i64 c, .int .i64 d]) (.agg #[.int .i64 e, .int .i64 f, .int .i64 g, .int .i64 h])).run Try.prog w = .ok ([a, b, c, d] == [e, f, g, h]) w :=
  run_equalIn_ints w .i64 9998 27 3 4 Try.underlying27 Try.underlying3 (fun w => by kernel_rfl) [a, b, c, d] [e, f, g, h] rfl rfl
theorem eq4_same (a b c d : Int) (w : World) : (Op.equalIn 10000 27 (.agg #[.int .i64 a, .int .i64 b, .int .i64 c, .int .i64 d]) (.agg #[.int .i64 a, .int .i64 b, .int .i64 c, .int .i64 d])).run Try.prog w = .ok true w := by rw [eq4]; simp
theorem alive_p1 : Ptuple 2 1 1 = .tuple #[.int .i64 (-1), .int .i64 2, .bool true] := by rfl
theorem alive_p2 : Ptuple 1048577 0 0 = .tuple #[.int .i64 0, .int .i64 0, .bool false] := by rfl
theorem alive_ok : boxOk [2, 1, -1, 5] 2 = true := by decide
theorem alive_b : Btuple [2, 1, -1, 5] 2 = .tuple #[arr4 (-1) 1 2 5, .bool true] := by unfold Btuple; rw [alive_ok]; rfl
theorem alive_v : ptsv [2, 1, -1, 5] 1 2 = [4, 3, 0, 0] := by unfold ptsv; rw [alive_ok]; decide +kernel
theorem alive_c : cellsv 2 1 1 = [0, 1] := by decide +kernel
set_option maxHeartbeats 2000000 in
theorem alive21_c (w : World) : Calls Try.prog 11 #[] w (Ret (.bool true) w) := by
  have P1 := turnPoint_c 2 1 1 (by decide) (by decide)
  have P2 := turnPoint_c 1048577 0 0 (by decide) (by decide)
  rw [alive_p1] at P1
  rw [alive_p2] at P2
  go_enter Try.func11, Try.ntmps11
  go_wp2_with fail
  refine (P1 _).mono ?_
  rintro e w1 ⟨rfl, hk1⟩
  go_wp2_with fail
  refine (P2 _).mono ?_
  rintro e w2 ⟨rfl, hk2⟩
  have HB := box_c (some ⟨w2.heap.size, 0, none⟩) 2 [2, 1, -1, 5] 2 rfl _ (blk_rd (blk_new w2 (.cells #[.int .i64 2, .int .i64 1, .int .i64 (-1), .int .i64 5] 35)) (by decide))
  rw [alive_b] at HB
  unfold arr4 at HB
  go_wp2_with fail
  refine HB.mono ?_
  rintro e w3 ⟨rfl, hk3⟩
  clear HB P1 P2
  have HP := points_c (some ⟨w3.heap.size + 1, 0, none⟩) 2 [2, 1, -1, 5] 2 rfl 1 (by decide) (by decide) (by decide) _ (blk_rd (blk_new1 w3 (.cells #[.int .i64 (-1), .int .i64 1, .int .i64 2, .int .i64 5] 27) (.cells #[.int .i64 2, .int .i64 1, .int .i64 (-1), .int .i64 5] 35)) (by decide))
  rw [alive_v, alive_ok] at HP
  simp only [if_true] at HP
  have hb0 := blk_alloc (blk_new w3 (.cells #[.int .i64 (-1), .int .i64 1, .int .i64 2, .int .i64 5] 27)) (.cells #[.int .i64 2, .int .i64 1, .int .i64 (-1), .int .i64 5] 35)
  go_wp2_with fail
  refine HP.mono ?_
  rintro e w4 ⟨v4, rfl, hown4, hk4⟩
  have hb := blk_kept hk4 hb0
  clear hb0
  have B0 := blk_cell hb 0
  have B1 := blk_cell hb 1
  have B2 := blk_cell hb 2
  have B3 := blk_cell hb 3
  clear hb
  clear HP
  obtain ⟨g4, c4, rfl, _, r4⟩ := hown4.pos (by decide) (by decide)
  obtain ⟨d0, d1⟩ := hown4.cell rfl (j := 0) (by decide)
  obtain ⟨d2, d3⟩ := hown4.cell rfl (j := 1) (by decide)
  have D0 : w4.cell? ⟨g4, 0, none⟩ = some (.int .i64 4) := d0
  have D1 : w4.cell? ⟨g4, 1, none⟩ = some (.int .i64 3) := d1
  have D2 : w4.cell? ⟨g4, 2, none⟩ = some (.int .i64 0) := d2
  have D3 : w4.cell? ⟨g4, 3, none⟩ = some (.int .i64 0) := d3
  clear d0 d1 d2 d3 r4 hown4
  have HC := cells_yes 2 1 1 (by decide) (by decide) (by decide) (by decide) (by decide) (by decide) w4
  rw [alive_c, show wideN 2 1 1 = 1 by decide, show highN 2 1 1 = 2 by decide] at HC
  go_wp2_with fail
  refine HC.mono ?_
  rintro e w5 ⟨v5, rfl, hown5, hk5⟩
  clear HC
  replace D0 := kept_cell hk5 D0
  replace D1 := kept_cell hk5 D1
  replace D2 := kept_cell hk5 D2
  replace D3 := kept_cell hk5 D3
  replace B0 := kept_cell hk5 B0
  replace B1 := kept_cell hk5 B1
  replace B2 := kept_cell hk5 B2
  replace B3 := kept_cell hk5 B3
  obtain ⟨A5, c5, rfl, _, _, r5⟩ := hown5.rd
  clear hown5
  go_wp2_with fail
  refine (cells_no 0 1 1 (by decide) _).mono ?_
  rintro e w6 ⟨rfl, hk6⟩
  replace r5 := r5.kept hk6
  replace D0 := kept_cell hk6 D0
  replace D1 := kept_cell hk6 D1
  replace D2 := kept_cell hk6 D2
  replace D3 := kept_cell hk6 D3
  replace B0 := kept_cell hk6 B0
  replace B1 := kept_cell hk6 B1
  replace B2 := kept_cell hk6 B2
  replace B3 := kept_cell hk6 B3
  have HK := kept_trans hk1 (kept_trans hk2 (kept_trans (kept_alloc (kept_refl _) _) (kept_trans hk3 (kept_trans (kept_alloc (kept_alloc (kept_refl _) _) _) (kept_trans hk4 (kept_trans hk5 hk6))))))
  clear hk1 hk2 hk3 hk4 hk5 hk6
  have E := eq4_same (-1) 1 2 5
  have E1 := eq2_same 4 3
  have E2 := eq2_same 0 0
  have S := places_c A5 (some ⟨w6.heap.size, 0, none⟩) c5 2 [0, 1] [0, 1] _ (r5.kept (kept_alloc (kept_refl _) (.cells #[.int .i64 0, .int .i64 1] 3))) (blk_rd (blk_new w6 (.cells #[.int .i64 0, .int .i64 1] 3)) (by decide))
  rw [show sameL [0, 1] [0, 1] = true by simp [sameL]] at S
  go_wp2_with fail
  refine S.mono ?_
  rintro e w7 ⟨rfl, hk7⟩
  clear S
  go_wp2_with fail
  go_ret
  exact ⟨rfl, kept_trans HK (kept_trans (kept_alloc (kept_refl _) _) hk7)⟩
end Go.Proofs.Ytkifafdbobhlpaa
