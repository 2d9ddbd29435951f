/-
  Layer 10's statements: the walks.
-/
import Derived.Test.YtobailigphmopaaLaw10
import Derived.Test.YtobailigphmopaaLaw10P
namespace Go.Proofs.Ytobailigphmopaa
open Go.RowKit BG
attribute [local go_sem ↓] Go.wp_at_zero Go.wp_at_succ
set_option linter.unusedVariables false

set_option maxRecDepth 100000 in
set_option maxHeartbeats 8000000 in
theorem wildZero_w (A : Option Addr) (cap n : Nat) (xs : List Int) (K : Int) (s : ByteArray) (size : Int) (hl : xs.length = 4 * n) (hn : n ≤ 9223372036854775807) (hs : s.size ≤ 9223372036854775807) (hu : U64 xs) (w : World) (hr : 4 * n ≤ 9223372036854775807 → Rd .u64 w A xs) : Calls Try.prog 6 #[leafV A n cap K, .string s, .int .i64 size] w (Ret (.bool true) w) := by
  have ka := kept_alloc (kept_refl w) (.cells #[.slice A n cap, .int .i64 K] 27)
  have hb := blk_new w (.cells #[.slice A n cap, .int .i64 K] 27)
  have FW := few10_c A cap n K s hn hs (w.alloc (.cells #[.slice A n cap, .int .i64 K] 27))
  by_cases hfew : n ≤ 100 ∧ s.size ≤ 300
  · have hr := hr (by omega)
    rw [show few10 n s.size = true by unfold few10; simp [hfew.1, hfew.2]] at FW
    go_enter Try.func6, Try.ntmps6
    go_wp2_with fail
    refine FW.mono ?_
    rintro e w1 ⟨rfl, hk1⟩
    replace hb := blk_kept hk1 hb
    have hk := kept_trans ka hk1
    have rd := hr.kept hk
    clear FW ka hk1 hr
    have c0 : w1.cell? ⟨w.heap.size, 0, none⟩ = some (.slice A n cap) := blk_cell hb 0
    have c1 : w1.cell? ⟨w.heap.size, 1, none⟩ = some (.int .i64 K) := blk_cell hb 1
    have S1 := fun w1 h => sums_c A cap n xs K s size hu hl (by omega) w1 h
    have S3 := fun w1 h => rcounts_c A cap n xs K s hu hl (by omega) (by omega) w1 h
    by_cases hse : sumsE xs n K s.size size = 0
    · obtain ⟨h1, h2, h3⟩ := sums_ok hse
      have hlaw := fun i => zero_law (s := s) (i := i) hu h2
      rw [h3, hse] at S1
      rw [counts_ok h1] at S3
      have hmF : ∀ i, missF xs n s i = (missv xs n s i : Int) := fun i => rfl
      have hlaw2 : ∀ i, (sumW xs n s i == 0) = (missF xs n s i == 0) := fun i => by
        have := hlaw i
        rw [Bool.eq_iff_iff, beq_iff_eq, beq_iff_eq, this, hmF]
        omega
      have HL := Lib.hid hlaw2
      have hsz : s.size + 1 - n ≤ 1000 := by omega
      clear h1 h2 h3 hse hlaw hlaw2 hmF
      generalize sumsN xs n K s.size size = sn at *
      generalize sumW xs n s = sw at *
      generalize missF xs n s = mf at *
      generalize s.size + 1 - n = L at *
      go_wp2_with fail
      refine (S1 _ rd).mono ?_
      rintro e w2 ⟨A2, cp2, rfl, rd2, hk2, _, _, _⟩
      replace hb := blk_kept hk2 hb
      replace hk := kept_trans hk hk2
      replace rd := rd.kept hk2
      rw [mk_length]
      clear c0 c1 hk2 S1
      have c0 : w2.cell? ⟨w.heap.size, 0, none⟩ = some (.slice A n cap) := blk_cell hb 0
      have c1 : w2.cell? ⟨w.heap.size, 1, none⟩ = some (.int .i64 K) := blk_cell hb 1
      go_wp2_with fail
      refine (S3 _ rd).mono ?_
      rintro e w3 ⟨v3, rfl, own3, hk3⟩
      obtain ⟨A3, cp3, rfl, _, _, rd3⟩ := own3.rd
      replace rd2 := rd2.kept hk3
      replace hk := kept_trans hk hk3
      rw [mk_length]
      clear c0 c1 hk3 S3 hb rd own3
      go_wp2_with fail
      go_loopw [43] (fun iv wr => ∃ i : Nat, i ≤ L ∧ iv = .int .i64 i ∧ Kept w3 wr) (fun iv _ => L - (intOf iv).toNat)
      case atStart => exact ⟨0, Nat.zero_le _, rfl, kept_refl _⟩
      case round =>
        obtain ⟨i, hi, rfl, hkr⟩ := hrel
        by_cases hlt : i < L
        · obtain ⟨ad, rfl, x0⟩ := (rd2.kept hkr).at_ (j := i) (by rw [mk_length]; exact hlt)
          obtain ⟨bd, rfl, y0⟩ := (rd3.kept hkr).at_ (j := i) (by rw [mk_length]; exact hlt)
          rw [nth_mk hlt] at x0 y0
          have hl := HL.out i
          generalize sw i = x at *
          generalize mf i = y at *
          have hne : (!((x == 0) == (y == 0))) = false := by rw [hl]; simp
          clear hl HL
          go_wp2_with fail
          have ks_0 := fun s => kw_cell s x0
          have ks_1 := fun s => kw_cell s y0
          refine wp_region_kept (by kernel_rfl) (by kernel_rfl) ?_
          repeat (first | go_big_quiet_skip | (go_big_quiet_want; go_big_quiet_op; first | go_big_quiet_on | (apply Exists.intro; refine ⟨fun s => ?_, ?_⟩; (first | fail); go_big_quiet_on)))
          refine wpQuiet_nil ?_
          rintro w7 ⟨⟨_, hk7⟩, rfl⟩
          clear ks_0 ks_1 x0 y0
          go_wp2_with fail
          exact ⟨⟨i + 1, by omega, by go_num, kept_trans hkr hk7⟩, by simp [intOf]; omega⟩
        · obtain rfl : i = L := by omega
          go_wp2_with fail
          refine (alive10_c _).mono ?_
          rintro e w8 ⟨rfl, hk8⟩
          go_wp2_with fail
          go_ret
          exact ⟨rfl, kept_trans hk (kept_trans hkr hk8)⟩
    · have hsl : sumsL xs n K s size = [] := by unfold sumsL; rw [if_neg hse]
      rw [hsl] at S1
      generalize sumsN xs n K s.size size = sn at *
      generalize sumsE xs n K s.size size = se at *
      have hd : (se == 0) = false := by rw [beq_eq_false_iff_ne]; exact hse
      have hd2 : (se != 0) = true := by rw [bne_iff_ne]; exact hse
      go_wp2_with fail
      refine (S1 _ rd).mono ?_
      rintro e w2 ⟨A2, cp2, rfl, rd2, hk2, _, _, _⟩
      clear c0 c1 S1 S3
      go_wp2_with fail
      refine (alive10_c _).mono ?_
      rintro e w3 ⟨rfl, hk3⟩
      go_wp2_with fail
      go_ret
      exact ⟨by simp, kept_trans hk (kept_trans hk2 hk3)⟩
  · rw [show few10 n s.size = false by unfold few10; simp; omega] at FW
    go_enter Try.func6, Try.ntmps6
    go_wp2_with fail
    refine FW.mono ?_
    rintro e w1 ⟨rfl, hk1⟩
    go_wp2_with fail
    refine (alive10_c _).mono ?_
    rintro e w2 ⟨rfl, hk2⟩
    go_wp2_with fail
    go_ret
    exact ⟨rfl, kept_trans ka (kept_trans hk1 hk2)⟩
end Go.Proofs.Ytobailigphmopaa
