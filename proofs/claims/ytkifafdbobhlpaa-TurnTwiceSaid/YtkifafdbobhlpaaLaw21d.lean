/-
  Layer 21's statements: the walks.
-/
import Derived.Test.YtkifafdbobhlpaaLaw21c
import Derived.Test.YtkifafdbobhlpaaTurnP
namespace Go.Proofs.Ytkifafdbobhlpaa
open Go.RowKit BG
attribute [local go_sem ↓] Go.wp_at_zero Go.wp_at_succ
set_option linter.unusedVariables false

theorem tm1000 (k : Int) : -1000 < k.tmod 1000 ∧ k.tmod 1000 < 1000 := by
  have h := Int.tmod_eq_emod (a := k) (b := 1000)
  by_cases hc : 0 ≤ k ∨ 1000 ∣ k
  · rw [if_pos hc] at h
    generalize k.tmod 1000 = t at *
    omega
  · rw [if_neg hc, show ((Int.natAbs 1000 : Nat) : Int) = 1000 from rfl] at h
    generalize k.tmod 1000 = t at *
    omega
set_option maxHeartbeats 2000000 in
theorem turnTwice_w (A : Option Addr) (cap : Nat) (xs : List Int) (n : Nat) (hl : xs.length = 2 * n) (a b : Int) (w : World) (hr : Rd .i64 w A xs) : Calls Try.prog 6 #[.slice A n cap, arr2 a b] w (Ret (.bool true) w) := by
  have hm := hr.1
  obtain ⟨a1, a2⟩ := tm1000 a
  obtain ⟨b1, b2⟩ := tm1000 b
  unfold arr2
  have hcz := blk_new w (.cells #[.int .i64 a, .int .i64 b] 35)
  have c0 : (w.alloc (.cells #[.int .i64 a, .int .i64 b] 35)).cell? ⟨w.heap.size, 0, none⟩ = some (.int .i64 a) := blk_cell hcz 0
  have c1 : (w.alloc (.cells #[.int .i64 a, .int .i64 b] 35)).cell? ⟨w.heap.size, 1, none⟩ = some (.int .i64 b) := blk_cell hcz 1
  clear hcz
  have hk0 := kept_alloc (kept_refl w) (.cells #[.int .i64 a, .int .i64 b] 35)
  by_cases h : n ≤ 1000
  · have PC : ∀ (k : Int) (k1 : -9223372036854775808 ≤ k) (k2 : k ≤ 9223372036854775807) (w0 : World), Rd .i64 w0 A xs → _ := fun k k1 k2 w0 r0 => points_c A cap xs n hl k k1 k2 (by omega) w0 r0
    cases hok : boxOk xs n
    · rw [hok] at PC
      simp only [Bool.false_eq_true, if_false] at PC
      clear hok
      go_enter Try.func6, Try.ntmps6
      go_wp2_with fail
      go_quiet (fail)
      replace hk0 := kept_drewN hk0 nq
      clear c0 c1
      go_wp2_with fail
      refine (PC _ (by omega) (by omega) _ (hr.kept hk0)).mono ?_
      rintro e w1 ⟨v1, rfl, hown1, hk1⟩
      replace hk0 := kept_trans hk0 hk1
      clear hk1
      obtain ⟨A1, c1, rfl, _, _⟩ := hown1.rd (by omega)
      clear hown1
      go_wp2_with fail
      refine (alive21_c _).mono ?_
      rintro e w2 ⟨rfl, hk2⟩
      go_wp2_with fail
      go_ret
      exact ⟨rfl, kept_trans hk0 hk2⟩
    · rw [hok] at PC
      simp only [if_true] at PC
      have HO := Lib.hid hok
      clear hok
      go_enter Try.func6, Try.ntmps6
      go_wp2_with fail
      go_quiet (fail)
      replace hk0 := kept_drewN hk0 nq
      clear c0 c1
      go_wp2_with fail
      refine (PC _ (by omega) (by omega) _ (hr.kept hk0)).mono ?_
      rintro e w1 ⟨v1, rfl, hown1, hk1⟩
      replace hk0 := kept_trans hk0 hk1
      clear hk1
      obtain ⟨A1, c1, rfl, l1, r1⟩ := hown1.rd (by omega)
      clear hown1
      generalize hys : ptsv xs (a.tmod 1000) n = ys at *
      have HY := Lib.hid hys
      clear hys
      go_wp2_with fail
      go_loopw [43] (fun i wx => ∃ q : Nat, q ≤ n ∧ i = .int .i64 q ∧ Kept w1 wx ∧ Hid (∀ p, p < q → X ys p ≤ 1048576 ∧ Y ys p ≤ 1048576)) (fun i _ => n - (intOf i).toNat)
      case atStart => exact ⟨0, Nat.zero_le _, rfl, kept_refl _, fun q hq => absurd hq (Nat.not_lt_zero q)⟩
      case round =>
        obtain ⟨q, hq, rfl, hkx, HQ⟩ := hrel
        by_cases hlt : q < n
        · obtain ⟨ad, rfl, c0, c1⟩ := (r1.kept hkx).point l1 hlt
          by_cases hx : X ys q ≤ 1048576
          · by_cases hy : Y ys q ≤ 1048576
            · have HX := Lib.hid hx
              have HZ := Lib.hid hy
              have gx : ¬ 1048576 < X ys q := by omega
              have gy : ¬ 1048576 < Y ys q := by omega
              clear hx hy
              go_wp2_with fail
              exact ⟨⟨q + 1, by omega, by go_num, kept_alloc hkx _, fun p hp => by
                rcases Nat.lt_or_ge p q with h | h
                · exact HQ p h
                · obtain rfl : p = q := by omega
                  exact ⟨HX.out, HZ.out⟩⟩, by simp [intOf]; omega⟩
            · have gx : ¬ 1048576 < X ys q := by omega
              have gy : 1048576 < Y ys q := by omega
              clear hx hy
              go_wp2_with fail
              refine (alive21_c _).mono ?_
              rintro e w2 ⟨rfl, hk2⟩
              go_wp2_with fail
              go_ret
              exact ⟨rfl, kept_trans hk0 (kept_trans (kept_alloc hkx _) hk2)⟩
          · have gx : 1048576 < X ys q := by omega
            clear hx
            go_wp2_with fail
            refine (alive21_c _).mono ?_
            rintro e w2 ⟨rfl, hk2⟩
            go_wp2_with fail
            go_ret
            exact ⟨rfl, kept_trans hk0 (kept_trans (kept_alloc hkx _) hk2)⟩
        · obtain rfl : q = n := by omega
          have hok2 : boxOk ys q = true := by rw [← HY.out]; exact ptsv_ok _ HO.out (by rw [HY.out]; exact HQ)
          have C2 := points_c A1 c1 ys q l1 (b.tmod 1000) (by omega) (by omega) (by omega) wr (r1.kept hkx)
          rw [hok2] at C2
          simp only [if_true] at C2
          have e1 : ptsv ys (b.tmod 1000) q = ptsv xs (a.tmod 1000 + b.tmod 1000) q := by rw [← HY.out]; rw [← HY.out] at hok2; exact ptsv_ptsv _ _ HO.out hok2
          have e2 : ptsv xs (a.tmod 1000 + b.tmod 1000 + 4) q = ptsv xs (a.tmod 1000 + b.tmod 1000) q := ptsv_mod (by omega) _ _
          rw [e1] at C2
          have E2 := Lib.hid e2
          clear e1 e2 hok2
          have hk := kept_trans hk0 hkx
          clear hk0 hkx
          go_wp2_with fail
          refine C2.mono ?_
          rintro e w2 ⟨v2, rfl, hown2, hk2⟩
          clear C2
          go_wp2_with fail
          refine (PC _ (by omega) (by omega) _ (hr.kept (kept_trans hk hk2))).mono ?_
          rintro e w3 ⟨v3, rfl, hown3, hk3⟩
          go_wp2_with fail
          refine (PC _ (by omega) (by omega) _ (hr.kept (kept_trans hk (kept_trans hk2 hk3)))).mono ?_
          rintro e w4 ⟨v4, rfl, hown4, hk4⟩
          rw [E2.out] at hown4
          clear E2
          obtain ⟨B2, c2, rfl, m2, s2⟩ := (hown2.kept (kept_trans hk3 hk4)).rd (by omega)
          obtain ⟨B3, c3, rfl, m3, s3⟩ := (hown3.kept hk4).rd (by omega)
          obtain ⟨B4, c4, rfl, m4, s4⟩ := hown4.rd (by omega)
          replace hk := kept_trans hk (kept_trans hk2 (kept_trans hk3 hk4))
          clear hown2 hown3 hown4 hk2 hk3 hk4 PC
          go_wp2_with fail
          refine (alive21_c _).mono ?_
          rintro e w5 ⟨rfl, hk5⟩
          have S1 := samep_c B2 B3 c2 c3 _ _ q q m2 m3 w5 (s2.kept hk5) (s3.kept hk5)
          rw [sameL_refl] at S1
          go_wp2_with fail
          refine S1.mono ?_
          rintro e w6 ⟨rfl, hk6⟩
          clear S1
          have S2 := samep_c B3 B4 c3 c4 _ _ q q m3 m4 w6 (s3.kept (kept_trans hk5 hk6)) (s4.kept (kept_trans hk5 hk6))
          rw [sameL_refl] at S2
          go_wp2_with fail
          refine S2.mono ?_
          rintro e w7 ⟨rfl, hk7⟩
          clear S2
          go_wp2_with fail
          go_ret
          exact ⟨rfl, kept_trans hk (kept_trans hk5 (kept_trans hk6 hk7))⟩
  · have h' : 1000 < n := by omega
    clear h
    go_enter Try.func6, Try.ntmps6
    go_wp2_with fail
    go_quiet (fail)
    replace hk0 := kept_drewN hk0 nq
    go_wp2_with fail
    refine (alive21_c _).mono ?_
    rintro e w1 ⟨rfl, hk1⟩
    go_wp2_with fail
    go_ret
    exact ⟨rfl, kept_trans hk0 hk1⟩
end Go.Proofs.Ytkifafdbobhlpaa
