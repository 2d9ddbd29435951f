/-
  Layer 10's statements: the walks.
-/
import Derived.Test.YtobailigphmopaaLaw10
import Derived.Test.YtobailigphmopaaLaw10P
namespace Go.Proofs.Ytobailigphmopaa
open Go.RowKit BG
attribute [local go_sem ↓] Go.wp_at_zero Go.wp_at_succ
set_option linter.unusedVariables false

set_option maxRecDepth 100000 in
set_option maxHeartbeats 8000000 in
theorem wildFinds_w (A : Option Addr) (cap n : Nat) (xs : List Int) (K : Int) (s : ByteArray) (size : Int) (hl : xs.length = 4 * n) (hn : n ≤ 9223372036854775807) (hs : s.size ≤ 9223372036854775807) (hu : U64 xs) (w : World) (hr : 4 * n ≤ 9223372036854775807 → Rd .u64 w A xs) : Calls Try.prog 5 #[leafV A n cap K, .string s, .int .i64 size] w (Ret (.bool true) w) := by
  have ka := kept_alloc (kept_refl w) (.cells #[.slice A n cap, .int .i64 K] 27)
  have hb := blk_new w (.cells #[.slice A n cap, .int .i64 K] 27)
  have FW := few10_c A cap n K s hn hs (w.alloc (.cells #[.slice A n cap, .int .i64 K] 27))
  by_cases hfew : n ≤ 100 ∧ s.size ≤ 300
  · have hr := hr (by omega)
    rw [show few10 n s.size = true by unfold few10; simp [hfew.1, hfew.2]] at FW
    go_enter Try.func5, Try.ntmps5
    go_wp2_with fail
    refine FW.mono ?_
    rintro e w1 ⟨rfl, hk1⟩
    replace hb := blk_kept hk1 hb
    have hk := kept_trans ka hk1
    have rd := hr.kept hk
    clear FW ka hk1 hr
    have c0 : w1.cell? ⟨w.heap.size, 0, none⟩ = some (.slice A n cap) := blk_cell hb 0
    have c1 : w1.cell? ⟨w.heap.size, 1, none⟩ = some (.int .i64 K) := blk_cell hb 1
    have S1 := fun w1 h => find_c A cap n xs K s size hu hl (by omega) (by omega) w1 h
    have S2 := fun w1 h => rfind_c A cap n xs K s size hu hl (by omega) (by omega) w1 h
    have S3 := fun w1 h => rfind8_c A cap n xs K s hu hl (by omega) (by omega) w1 h
    have hf := find_ok (xs := xs) (n := n) (K := K) (s := s) (size := size) hu
    generalize findL xs n K s size = sl at *
    generalize findN xs n K s.size size = sn at *
    generalize findE xs n K s.size size = se at *
    generalize hitsv (countsv xs n K s) K = hv at *
    have HF := Lib.hid hf
    clear hf
    go_wp2_with fail
    refine (S1 _ rd).mono ?_
    rintro e w2 ⟨A2, cp2, rfl, rd2, hk2⟩
    replace hb := blk_kept hk2 hb
    replace hk := kept_trans hk hk2
    replace rd := rd.kept hk2
    clear c0 c1 hk2 S1
    have c0 : w2.cell? ⟨w.heap.size, 0, none⟩ = some (.slice A n cap) := blk_cell hb 0
    have c1 : w2.cell? ⟨w.heap.size, 1, none⟩ = some (.int .i64 K) := blk_cell hb 1
    go_wp2_with fail
    refine (S2 _ rd).mono ?_
    rintro e w3 ⟨A3, cp3, rfl, rd3, hk3⟩
    replace hb := blk_kept hk3 hb
    replace rd := rd.kept hk3
    replace rd2 := rd2.kept hk3
    replace hk := kept_trans hk hk3
    clear c0 c1 hk3 S2
    go_wp2_with fail
    refine (alive10_c _).mono ?_
    rintro e w4 ⟨rfl, hk4⟩
    replace hb := blk_kept hk4 hb
    replace rd := rd.kept hk4
    replace rd2 := rd2.kept hk4
    replace hk := kept_trans hk hk4
    have S := places_c A2 A3 cp2 cp3 sl sl _ rd2 (rd3.kept hk4)
    rw [sameL_refl] at S
    clear hk4 rd3
    go_wp2_with fail
    refine S.mono ?_
    rintro e w5 ⟨rfl, hk5⟩
    replace hb := blk_kept hk5 hb
    replace rd := rd.kept hk5
    replace rd2 := rd2.kept hk5
    replace hk := kept_trans hk hk5
    clear S hk5
    have c0 : w5.cell? ⟨w.heap.size, 0, none⟩ = some (.slice A n cap) := blk_cell hb 0
    have c1 : w5.cell? ⟨w.heap.size, 1, none⟩ = some (.int .i64 K) := blk_cell hb 1
    by_cases hse : se = 0
    · have hl2 := HF.out hse
      subst hse hl2
      go_wp2_with fail
      refine (S3 _ rd).mono ?_
      rintro e w6 ⟨v6, rfl, own6, hk6⟩
      obtain ⟨A6, cp6, rfl, _, _, rd6⟩ := own6.rd
      have S := places_c A2 A6 cp2 cp6 sl sl _ (rd2.kept hk6) rd6
      rw [sameL_refl] at S
      clear c0 c1 S3 own6
      go_wp2_with fail
      refine S.mono ?_
      rintro e w7 ⟨rfl, hk7⟩
      clear S
      go_wp2_with fail
      go_ret
      exact ⟨by simp, kept_trans hk (kept_trans hk6 hk7)⟩
    · have hd : (se == 0) = false := by rw [beq_eq_false_iff_ne]; exact hse
      have hd2 : (se != 0) = true := by rw [bne_iff_ne]; exact hse
      clear S3 HF c0 c1
      go_wp2_with fail
      go_ret
      exact ⟨by simp, hk⟩
  · rw [show few10 n s.size = false by unfold few10; simp; omega] at FW
    go_enter Try.func5, Try.ntmps5
    go_wp2_with fail
    refine FW.mono ?_
    rintro e w1 ⟨rfl, hk1⟩
    go_wp2_with fail
    refine (alive10_c _).mono ?_
    rintro e w2 ⟨rfl, hk2⟩
    go_wp2_with fail
    go_ret
    exact ⟨rfl, kept_trans ka (kept_trans hk1 hk2)⟩
end Go.Proofs.Ytobailigphmopaa
