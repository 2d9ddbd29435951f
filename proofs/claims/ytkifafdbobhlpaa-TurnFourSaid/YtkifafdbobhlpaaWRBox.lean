/-
  Layer 21 (turn): where points are, by the document.
-/
import Derived.Test.YtkifafdbobhlpaaWBox
import Derived.Deep.DeepCutAuto
namespace Go.Proofs.Ytkifafdbobhlpaa
open Go.RowKit BG
attribute [local go_sem ↓] Go.wp_at_zero Go.wp_at_succ
set_option linter.unusedVariables false

def pz (j : Nat) (v : Int) : Int := if j = 0 then 0 else v
theorem pz_succ (j : Nat) (v : Int) : pz (j + 1) v = v := by simp [pz]
theorem min_yes {a b : Int} (h : b < a) : min a b = b := by omega
theorem min_no {a b : Int} (h : a ≤ b) : min a b = a := by omega
theorem max_yes {a b : Int} (h : a < b) : max a b = b := by omega
theorem max_no {a b : Int} (h : b ≤ a) : max a b = a := by omega
theorem rbox_c (A : Option Addr) (cap : Nat) (xs : List Int) (n : Nat) (hl : xs.length = 2 * n) (w : World) (hr : Rd .i64 w A xs) :
    Calls Try.prog 13 #[.slice A n cap] w (Ret (Btuple xs n) w) := by
  have hm := hr.1
  go_enter Try.func13, Try.ntmps13
  go_wp2_with fail
  go_loopw [5] (fun i wr => ∃ j : Nat, j ≤ n ∧ i = .int .i64 j ∧ wr.heap[w.heap.size]? = some (.cells #[.int .i64 (0), .int .i64 (0), .int .i64 (0), .int .i64 (0)] 27 (0, 0)) ∧ wr.heap[w.heap.size + 1]? = some (.cells #[.int .i64 (pz j (lo (X xs) j)), .int .i64 (pz j (lo (Y xs) j)), .int .i64 (pz j (hi (X xs) j)), .int .i64 (pz j (hi (Y xs) j))] 27 (0, 0)) ∧ Kept w wr ∧ Hid (∀ q, q < j → win (X xs q) (Y xs q) = true)) (fun i _ => n - (intOf i).toNat)
  case atStart => exact ⟨0, Nat.zero_le _, rfl, blk_alloc (blk_new w _) _, blk_new1 w _ _, kept_alloc (kept_alloc (kept_refl w) _) _, fun q hq => absurd hq (Nat.not_lt_zero q)⟩
  case round =>
    obtain ⟨j, hj, rfl, hz, ho, hk, HQ⟩ := hrel
    by_cases hlt : j < n
    · obtain ⟨ad, rfl, c0, c1⟩ := (hr.kept hk).point hl hlt
      have W1 := rwithin_s (X xs j)
      have W2 := rwithin_s (Y xs j)
      cases i1 : inb (X xs j)
      · have hwin : win (X xs j) (Y xs j) = false := by simp [win, i1]
        rw [i1] at W1
        clear i1
        have z0 : _ = some (Value.int .i64 0) := blk_cell hz 0
        have zf0 := blk_frozen hz 0
        have z1 : _ = some (Value.int .i64 0) := blk_cell hz 1
        have zf1 := blk_frozen hz 1
        have z2 : _ = some (Value.int .i64 0) := blk_cell hz 2
        have zf2 := blk_frozen hz 2
        have z3 : _ = some (Value.int .i64 0) := blk_cell hz 3
        have zf3 := blk_frozen hz 3
        go_wp2_with fail
        refine (W1 _).mono ?_
        rintro e w1 ⟨rfl, rfl⟩
        go_wp2_with fail
        have S0 : (w1.setCell ⟨w.heap.size, 0, none⟩ (.int .i64 (0))).heap[w.heap.size]? = some (.cells #[.int .i64 (0), .int .i64 (0), .int .i64 (0), .int .i64 (0)] 27 (0, 0)) := blk_set hz 0 _
        have S1 : ((w1.setCell ⟨w.heap.size, 0, none⟩ (.int .i64 (0))).setCell ⟨w.heap.size, 1, none⟩ (.int .i64 (0))).heap[w.heap.size]? = some (.cells #[.int .i64 (0), .int .i64 (0), .int .i64 (0), .int .i64 (0)] 27 (0, 0)) := blk_set S0 1 _
        have S2 : (((w1.setCell ⟨w.heap.size, 0, none⟩ (.int .i64 (0))).setCell ⟨w.heap.size, 1, none⟩ (.int .i64 (0))).setCell ⟨w.heap.size, 2, none⟩ (.int .i64 (0))).heap[w.heap.size]? = some (.cells #[.int .i64 (0), .int .i64 (0), .int .i64 (0), .int .i64 (0)] 27 (0, 0)) := blk_set S1 2 _
        have S3 : ((((w1.setCell ⟨w.heap.size, 0, none⟩ (.int .i64 (0))).setCell ⟨w.heap.size, 1, none⟩ (.int .i64 (0))).setCell ⟨w.heap.size, 2, none⟩ (.int .i64 (0))).setCell ⟨w.heap.size, 3, none⟩ (.int .i64 (0))).heap[w.heap.size]? = some (.cells #[.int .i64 (0), .int .i64 (0), .int .i64 (0), .int .i64 (0)] 27 (0, 0)) := blk_set S2 3 _
        have r0 := blk_cell S3 0
        have r1 := blk_cell S3 1
        have r2 := blk_cell S3 2
        have r3 := blk_cell S3 3
        have hno : boxOk xs n = false := by
          simp only [boxOk, decide_eq_false_iff_not]
          rintro ⟨_, h⟩
          rw [h j hlt] at hwin
          cases hwin
        exact bodyPost_ret (v := .tuple #[arr4 0 0 0 0, .bool false]) (by simp [results, Try.results13, go_sem, arr4, r0, r1, r2, r3]) rfl ⟨by unfold Btuple; rw [hno]; rfl, kept_set (kept_set (kept_set (kept_set (hk) (p := ⟨w.heap.size, 0, none⟩) (Nat.le_refl _) _) (p := ⟨w.heap.size, 1, none⟩) (Nat.le_refl _) _) (p := ⟨w.heap.size, 2, none⟩) (Nat.le_refl _) _) (p := ⟨w.heap.size, 3, none⟩) (Nat.le_refl _) _⟩
      · cases i2 : inb (Y xs j)
        · have hwin : win (X xs j) (Y xs j) = false := by simp [win, i2]
          rw [i1] at W1
          rw [i2] at W2
          clear i1 i2
          have z0 : _ = some (Value.int .i64 0) := blk_cell hz 0
          have zf0 := blk_frozen hz 0
          have z1 : _ = some (Value.int .i64 0) := blk_cell hz 1
          have zf1 := blk_frozen hz 1
          have z2 : _ = some (Value.int .i64 0) := blk_cell hz 2
          have zf2 := blk_frozen hz 2
          have z3 : _ = some (Value.int .i64 0) := blk_cell hz 3
          have zf3 := blk_frozen hz 3
          go_wp2_with fail
          refine (W1 _).mono ?_
          rintro e w1 ⟨rfl, rfl⟩
          go_wp2_with fail
          refine (W2 _).mono ?_
          rintro e w1 ⟨rfl, rfl⟩
          go_wp2_with fail
          have S0 : (w1.setCell ⟨w.heap.size, 0, none⟩ (.int .i64 (0))).heap[w.heap.size]? = some (.cells #[.int .i64 (0), .int .i64 (0), .int .i64 (0), .int .i64 (0)] 27 (0, 0)) := blk_set hz 0 _
          have S1 : ((w1.setCell ⟨w.heap.size, 0, none⟩ (.int .i64 (0))).setCell ⟨w.heap.size, 1, none⟩ (.int .i64 (0))).heap[w.heap.size]? = some (.cells #[.int .i64 (0), .int .i64 (0), .int .i64 (0), .int .i64 (0)] 27 (0, 0)) := blk_set S0 1 _
          have S2 : (((w1.setCell ⟨w.heap.size, 0, none⟩ (.int .i64 (0))).setCell ⟨w.heap.size, 1, none⟩ (.int .i64 (0))).setCell ⟨w.heap.size, 2, none⟩ (.int .i64 (0))).heap[w.heap.size]? = some (.cells #[.int .i64 (0), .int .i64 (0), .int .i64 (0), .int .i64 (0)] 27 (0, 0)) := blk_set S1 2 _
          have S3 : ((((w1.setCell ⟨w.heap.size, 0, none⟩ (.int .i64 (0))).setCell ⟨w.heap.size, 1, none⟩ (.int .i64 (0))).setCell ⟨w.heap.size, 2, none⟩ (.int .i64 (0))).setCell ⟨w.heap.size, 3, none⟩ (.int .i64 (0))).heap[w.heap.size]? = some (.cells #[.int .i64 (0), .int .i64 (0), .int .i64 (0), .int .i64 (0)] 27 (0, 0)) := blk_set S2 3 _
          have r0 := blk_cell S3 0
          have r1 := blk_cell S3 1
          have r2 := blk_cell S3 2
          have r3 := blk_cell S3 3
          have hno : boxOk xs n = false := by
            simp only [boxOk, decide_eq_false_iff_not]
            rintro ⟨_, h⟩
            rw [h j hlt] at hwin
            cases hwin
          exact bodyPost_ret (v := .tuple #[arr4 0 0 0 0, .bool false]) (by simp [results, Try.results13, go_sem, arr4, r0, r1, r2, r3]) rfl ⟨by unfold Btuple; rw [hno]; rfl, kept_set (kept_set (kept_set (kept_set (hk) (p := ⟨w.heap.size, 0, none⟩) (Nat.le_refl _) _) (p := ⟨w.heap.size, 1, none⟩) (Nat.le_refl _) _) (p := ⟨w.heap.size, 2, none⟩) (Nat.le_refl _) _) (p := ⟨w.heap.size, 3, none⟩) (Nat.le_refl _) _⟩
        · have hwin : win (X xs j) (Y xs j) = true := by simp [win, i1, i2]
          rw [i1] at W1
          rw [i2] at W2
          clear i1 i2
          have HW := Lib.hid hwin
          clear hwin
          go_wp2_with fail
          refine (W1 _).mono ?_
          rintro e w1 ⟨rfl, rfl⟩
          go_wp2_with fail
          refine (W2 _).mono ?_
          rintro e w1 ⟨rfl, rfl⟩
          clear W1 W2 c0 c1
          have o0 : _ = some (Value.int .i64 (pz j (lo (X xs) j))) := blk_cell ho 0
          have of0 := blk_frozen ho 0
          have o1 : _ = some (Value.int .i64 (pz j (lo (Y xs) j))) := blk_cell ho 1
          have of1 := blk_frozen ho 1
          have o2 : _ = some (Value.int .i64 (pz j (hi (X xs) j))) := blk_cell ho 2
          have of2 := blk_frozen ho 2
          have o3 : _ = some (Value.int .i64 (pz j (hi (Y xs) j))) := blk_cell ho 3
          have of3 := blk_frozen ho 3
          have hne' : w.heap.size ≠ w.heap.size + 1 := by omega
          have hle' : w.heap.size ≤ w.heap.size + 1 := by omega
          go_upto_if 34 with fail
          go_cut [] (fun wx => wx.heap[w.heap.size]? = some (.cells #[.int .i64 (0), .int .i64 (0), .int .i64 (0), .int .i64 (0)] 27 (0, 0)) ∧ wx.heap[w.heap.size + 1]? = some (.cells #[.int .i64 (lo (X xs) j), .int .i64 (lo (Y xs) j), .int .i64 (hi (X xs) j), .int .i64 (hi (Y xs) j)] 27 (0, 0)) ∧ Kept w wx)
          case first =>
            rcases Nat.eq_zero_or_pos j with rfl | hp
            · go_wp2_with fail
              go_meet
              have S0 : (w1.setCell ⟨w.heap.size + 1, 0, none⟩ (.int .i64 (X xs 0))).heap[w.heap.size + 1]? = some (.cells #[.int .i64 (X xs 0), .int .i64 (pz 0 (lo (Y xs) 0)), .int .i64 (pz 0 (hi (X xs) 0)), .int .i64 (pz 0 (hi (Y xs) 0))] 27 (0, 0)) := blk_set ho 0 _
              have S1 : ((w1.setCell ⟨w.heap.size + 1, 0, none⟩ (.int .i64 (X xs 0))).setCell ⟨w.heap.size + 1, 1, none⟩ (.int .i64 (Y xs 0))).heap[w.heap.size + 1]? = some (.cells #[.int .i64 (X xs 0), .int .i64 (Y xs 0), .int .i64 (pz 0 (hi (X xs) 0)), .int .i64 (pz 0 (hi (Y xs) 0))] 27 (0, 0)) := blk_set S0 1 _
              have S2 : (((w1.setCell ⟨w.heap.size + 1, 0, none⟩ (.int .i64 (X xs 0))).setCell ⟨w.heap.size + 1, 1, none⟩ (.int .i64 (Y xs 0))).setCell ⟨w.heap.size + 1, 2, none⟩ (.int .i64 (X xs 0))).heap[w.heap.size + 1]? = some (.cells #[.int .i64 (X xs 0), .int .i64 (Y xs 0), .int .i64 (X xs 0), .int .i64 (pz 0 (hi (Y xs) 0))] 27 (0, 0)) := blk_set S1 2 _
              have S3 : ((((w1.setCell ⟨w.heap.size + 1, 0, none⟩ (.int .i64 (X xs 0))).setCell ⟨w.heap.size + 1, 1, none⟩ (.int .i64 (Y xs 0))).setCell ⟨w.heap.size + 1, 2, none⟩ (.int .i64 (X xs 0))).setCell ⟨w.heap.size + 1, 3, none⟩ (.int .i64 (Y xs 0))).heap[w.heap.size + 1]? = some (.cells #[.int .i64 (X xs 0), .int .i64 (Y xs 0), .int .i64 (X xs 0), .int .i64 (Y xs 0)] 27 (0, 0)) := blk_set S2 3 _
              exact ⟨blk_far (blk_far (blk_far (blk_far (hz) (p := ⟨w.heap.size + 1, 0, none⟩) hne' _) (p := ⟨w.heap.size + 1, 1, none⟩) hne' _) (p := ⟨w.heap.size + 1, 2, none⟩) hne' _) (p := ⟨w.heap.size + 1, 3, none⟩) hne' _, S3, kept_set (kept_set (kept_set (kept_set (hk) (p := ⟨w.heap.size + 1, 0, none⟩) hle' _) (p := ⟨w.heap.size + 1, 1, none⟩) hle' _) (p := ⟨w.heap.size + 1, 2, none⟩) hle' _) (p := ⟨w.heap.size + 1, 3, none⟩) hle' _⟩
            · have hb : ((j : Int) == 0) = false := by rw [beq_eq_false_iff_ne]; omega
              go_wp2_with fail
              go_meet
              exact ⟨hz, by simpa [pz, Nat.ne_of_gt hp] using ho, hk⟩
          case rest =>
          clear hz ho hk o0 o1 o2 o3 of0 of1 of2 of3
          obtain ⟨hz, ho, hk⟩ := hcut
          have o0 : _ = some (Value.int .i64 (lo (X xs) j)) := blk_cell ho 0
          have of0 := blk_frozen ho 0
          have o1 : _ = some (Value.int .i64 (lo (Y xs) j)) := blk_cell ho 1
          have of1 := blk_frozen ho 1
          have o2 : _ = some (Value.int .i64 (hi (X xs) j)) := blk_cell ho 2
          have of2 := blk_frozen ho 2
          have o3 : _ = some (Value.int .i64 (hi (Y xs) j)) := blk_cell ho 3
          have of3 := blk_frozen ho 3
          go_upto_if 43 with fail
          go_cut [] (fun wx => wx.heap[w.heap.size]? = some (.cells #[.int .i64 (0), .int .i64 (0), .int .i64 (0), .int .i64 (0)] 27 (0, 0)) ∧ wx.heap[w.heap.size + 1]? = some (.cells #[.int .i64 (min (lo (X xs) j) (X xs j)), .int .i64 (lo (Y xs) j), .int .i64 (hi (X xs) j), .int .i64 (hi (Y xs) j)] 27 (0, 0)) ∧ Kept w wx)
          case first =>
            by_cases hc : X xs j < lo (X xs) j
            · go_wp2_with fail
              go_meet
              exact ⟨blk_far (hz) (p := ⟨w.heap.size + 1, 0, none⟩) hne' _, by rw [min_yes hc]; exact blk_set ho 0 _, kept_set (hk) (p := ⟨w.heap.size + 1, 0, none⟩) hle' _⟩
            · have hc' := Int.not_lt.1 hc
              go_wp2_with fail
              go_meet
              exact ⟨hz, by rw [min_no hc']; exact ho, hk⟩
          case rest =>
          clear hz ho hk o0 o1 o2 o3 of0 of1 of2 of3
          obtain ⟨hz, ho, hk⟩ := hcut
          have o0 : _ = some (Value.int .i64 (min (lo (X xs) j) (X xs j))) := blk_cell ho 0
          have of0 := blk_frozen ho 0
          have o1 : _ = some (Value.int .i64 (lo (Y xs) j)) := blk_cell ho 1
          have of1 := blk_frozen ho 1
          have o2 : _ = some (Value.int .i64 (hi (X xs) j)) := blk_cell ho 2
          have of2 := blk_frozen ho 2
          have o3 : _ = some (Value.int .i64 (hi (Y xs) j)) := blk_cell ho 3
          have of3 := blk_frozen ho 3
          go_upto_if 49 with fail
          go_cut [] (fun wx => wx.heap[w.heap.size]? = some (.cells #[.int .i64 (0), .int .i64 (0), .int .i64 (0), .int .i64 (0)] 27 (0, 0)) ∧ wx.heap[w.heap.size + 1]? = some (.cells #[.int .i64 (min (lo (X xs) j) (X xs j)), .int .i64 (min (lo (Y xs) j) (Y xs j)), .int .i64 (hi (X xs) j), .int .i64 (hi (Y xs) j)] 27 (0, 0)) ∧ Kept w wx)
          case first =>
            by_cases hc : Y xs j < lo (Y xs) j
            · go_wp2_with fail
              go_meet
              exact ⟨blk_far (hz) (p := ⟨w.heap.size + 1, 1, none⟩) hne' _, by rw [min_yes hc]; exact blk_set ho 1 _, kept_set (hk) (p := ⟨w.heap.size + 1, 1, none⟩) hle' _⟩
            · have hc' := Int.not_lt.1 hc
              go_wp2_with fail
              go_meet
              exact ⟨hz, by rw [min_no hc']; exact ho, hk⟩
          case rest =>
          clear hz ho hk o0 o1 o2 o3 of0 of1 of2 of3
          obtain ⟨hz, ho, hk⟩ := hcut
          have o0 : _ = some (Value.int .i64 (min (lo (X xs) j) (X xs j))) := blk_cell ho 0
          have of0 := blk_frozen ho 0
          have o1 : _ = some (Value.int .i64 (min (lo (Y xs) j) (Y xs j))) := blk_cell ho 1
          have of1 := blk_frozen ho 1
          have o2 : _ = some (Value.int .i64 (hi (X xs) j)) := blk_cell ho 2
          have of2 := blk_frozen ho 2
          have o3 : _ = some (Value.int .i64 (hi (Y xs) j)) := blk_cell ho 3
          have of3 := blk_frozen ho 3
          go_upto_if 55 with fail
          go_cut [] (fun wx => wx.heap[w.heap.size]? = some (.cells #[.int .i64 (0), .int .i64 (0), .int .i64 (0), .int .i64 (0)] 27 (0, 0)) ∧ wx.heap[w.heap.size + 1]? = some (.cells #[.int .i64 (min (lo (X xs) j) (X xs j)), .int .i64 (min (lo (Y xs) j) (Y xs j)), .int .i64 (max (hi (X xs) j) (X xs j)), .int .i64 (hi (Y xs) j)] 27 (0, 0)) ∧ Kept w wx)
          case first =>
            by_cases hc : hi (X xs) j < X xs j
            · go_wp2_with fail
              go_meet
              exact ⟨blk_far (hz) (p := ⟨w.heap.size + 1, 2, none⟩) hne' _, by rw [max_yes hc]; exact blk_set ho 2 _, kept_set (hk) (p := ⟨w.heap.size + 1, 2, none⟩) hle' _⟩
            · have hc' := Int.not_lt.1 hc
              go_wp2_with fail
              go_meet
              exact ⟨hz, by rw [max_no hc']; exact ho, hk⟩
          case rest =>
          clear hz ho hk o0 o1 o2 o3 of0 of1 of2 of3
          obtain ⟨hz, ho, hk⟩ := hcut
          have o0 : _ = some (Value.int .i64 (min (lo (X xs) j) (X xs j))) := blk_cell ho 0
          have of0 := blk_frozen ho 0
          have o1 : _ = some (Value.int .i64 (min (lo (Y xs) j) (Y xs j))) := blk_cell ho 1
          have of1 := blk_frozen ho 1
          have o2 : _ = some (Value.int .i64 (max (hi (X xs) j) (X xs j))) := blk_cell ho 2
          have of2 := blk_frozen ho 2
          have o3 : _ = some (Value.int .i64 (hi (Y xs) j)) := blk_cell ho 3
          have of3 := blk_frozen ho 3
          by_cases hc : hi (Y xs) j < Y xs j
          · go_wp2_with fail
            have S : (wc.setCell ⟨w.heap.size + 1, 3, none⟩ (.int .i64 (Y xs j))).heap[w.heap.size + 1]? = some (.cells #[.int .i64 (min (lo (X xs) j) (X xs j)), .int .i64 (min (lo (Y xs) j) (Y xs j)), .int .i64 (max (hi (X xs) j) (X xs j)), .int .i64 (max (hi (Y xs) j) (Y xs j))] 27 (0, 0)) := by rw [max_yes hc]; exact blk_set ho 3 _
            refine ⟨⟨j + 1, by omega, by go_num, blk_far (hz) (p := ⟨w.heap.size + 1, 3, none⟩) hne' _, by simp only [pz_succ]; exact S, kept_set (hk) (p := ⟨w.heap.size + 1, 3, none⟩) hle' _, fun q hq => by
              rcases Nat.lt_or_ge q j with h | h
              · exact HQ q h
              · obtain rfl : q = j := by omega
                exact HW.out⟩, by simp [intOf]; omega⟩
          · have hc' := Int.not_lt.1 hc
            go_wp2_with fail
            have S : wc.heap[w.heap.size + 1]? = some (.cells #[.int .i64 (min (lo (X xs) j) (X xs j)), .int .i64 (min (lo (Y xs) j) (Y xs j)), .int .i64 (max (hi (X xs) j) (X xs j)), .int .i64 (max (hi (Y xs) j) (Y xs j))] 27 (0, 0)) := by rw [max_no hc']; exact ho
            refine ⟨⟨j + 1, by omega, by go_num, hz, by simp only [pz_succ]; exact S, hk, fun q hq => by
              rcases Nat.lt_or_ge q j with h | h
              · exact HQ q h
              · obtain rfl : q = j := by omega
                exact HW.out⟩, by simp [intOf]; omega⟩
    · obtain rfl : j = n := by omega
      rcases Nat.eq_zero_or_pos j with rfl | hp
      · have hb : boxOk xs 0 = false := by simp [boxOk]
        have HB := Lib.hid hb
        clear hb
        replace ho : wr.heap[w.heap.size + 1]? = some (.cells #[.int .i64 (0), .int .i64 (0), .int .i64 (0), .int .i64 (0)] 27 (0, 0)) := by simpa [pz] using ho
        have o0 : _ = some (Value.int .i64 (0)) := blk_cell ho 0
        have off0 := blk_frozen ho 0
        have o1 : _ = some (Value.int .i64 (0)) := blk_cell ho 1
        have off1 := blk_frozen ho 1
        have o2 : _ = some (Value.int .i64 (0)) := blk_cell ho 2
        have off2 := blk_frozen ho 2
        have o3 : _ = some (Value.int .i64 (0)) := blk_cell ho 3
        have off3 := blk_frozen ho 3
        have z0 : _ = some (Value.int .i64 0) := blk_cell hz 0
        have zf0 := blk_frozen hz 0
        have z1 : _ = some (Value.int .i64 0) := blk_cell hz 1
        have zf1 := blk_frozen hz 1
        have z2 : _ = some (Value.int .i64 0) := blk_cell hz 2
        have zf2 := blk_frozen hz 2
        have z3 : _ = some (Value.int .i64 0) := blk_cell hz 3
        have zf3 := blk_frozen hz 3
        go_wp2_with fail
        have S0 : (wr.setCell ⟨w.heap.size, 0, none⟩ (.int .i64 (0))).heap[w.heap.size]? = some (.cells #[.int .i64 (0), .int .i64 (0), .int .i64 (0), .int .i64 (0)] 27 (0, 0)) := blk_set hz 0 _
        have S1 : ((wr.setCell ⟨w.heap.size, 0, none⟩ (.int .i64 (0))).setCell ⟨w.heap.size, 1, none⟩ (.int .i64 (0))).heap[w.heap.size]? = some (.cells #[.int .i64 (0), .int .i64 (0), .int .i64 (0), .int .i64 (0)] 27 (0, 0)) := blk_set S0 1 _
        have S2 : (((wr.setCell ⟨w.heap.size, 0, none⟩ (.int .i64 (0))).setCell ⟨w.heap.size, 1, none⟩ (.int .i64 (0))).setCell ⟨w.heap.size, 2, none⟩ (.int .i64 (0))).heap[w.heap.size]? = some (.cells #[.int .i64 (0), .int .i64 (0), .int .i64 (0), .int .i64 (0)] 27 (0, 0)) := blk_set S1 2 _
        have S3 : ((((wr.setCell ⟨w.heap.size, 0, none⟩ (.int .i64 (0))).setCell ⟨w.heap.size, 1, none⟩ (.int .i64 (0))).setCell ⟨w.heap.size, 2, none⟩ (.int .i64 (0))).setCell ⟨w.heap.size, 3, none⟩ (.int .i64 (0))).heap[w.heap.size]? = some (.cells #[.int .i64 (0), .int .i64 (0), .int .i64 (0), .int .i64 (0)] 27 (0, 0)) := blk_set S2 3 _
        have r0 := blk_cell S3 0
        have r1 := blk_cell S3 1
        have r2 := blk_cell S3 2
        have r3 := blk_cell S3 3
        exact bodyPost_ret (v := .tuple #[arr4 0 0 0 0, .bool false]) (by simp [results, Try.results13, go_sem, arr4, r0, r1, r2, r3]) rfl ⟨by unfold Btuple; rw [HB.out]; rfl, kept_set (kept_set (kept_set (kept_set (hk) (p := ⟨w.heap.size, 0, none⟩) (Nat.le_refl _) _) (p := ⟨w.heap.size, 1, none⟩) (Nat.le_refl _) _) (p := ⟨w.heap.size, 2, none⟩) (Nat.le_refl _) _) (p := ⟨w.heap.size, 3, none⟩) (Nat.le_refl _) _⟩
      · have hb : boxOk xs j = true := by
          simp only [boxOk, decide_eq_true_eq]
          exact ⟨hp, HQ⟩
        have HB := Lib.hid hb
        clear hb
        replace ho : wr.heap[w.heap.size + 1]? = some (.cells #[.int .i64 (lo (X xs) j), .int .i64 (lo (Y xs) j), .int .i64 (hi (X xs) j), .int .i64 (hi (Y xs) j)] 27 (0, 0)) := by simpa [pz, Nat.ne_of_gt hp] using ho
        have o0 : _ = some (Value.int .i64 (lo (X xs) j)) := blk_cell ho 0
        have off0 := blk_frozen ho 0
        have o1 : _ = some (Value.int .i64 (lo (Y xs) j)) := blk_cell ho 1
        have off1 := blk_frozen ho 1
        have o2 : _ = some (Value.int .i64 (hi (X xs) j)) := blk_cell ho 2
        have off2 := blk_frozen ho 2
        have o3 : _ = some (Value.int .i64 (hi (Y xs) j)) := blk_cell ho 3
        have off3 := blk_frozen ho 3
        have z0 : _ = some (Value.int .i64 0) := blk_cell hz 0
        have zf0 := blk_frozen hz 0
        have z1 : _ = some (Value.int .i64 0) := blk_cell hz 1
        have zf1 := blk_frozen hz 1
        have z2 : _ = some (Value.int .i64 0) := blk_cell hz 2
        have zf2 := blk_frozen hz 2
        have z3 : _ = some (Value.int .i64 0) := blk_cell hz 3
        have zf3 := blk_frozen hz 3
        go_wp2_with fail
        have S0 : (wr.setCell ⟨w.heap.size, 0, none⟩ (.int .i64 (lo (X xs) j))).heap[w.heap.size]? = some (.cells #[.int .i64 (lo (X xs) j), .int .i64 (0), .int .i64 (0), .int .i64 (0)] 27 (0, 0)) := blk_set hz 0 _
        have S1 : ((wr.setCell ⟨w.heap.size, 0, none⟩ (.int .i64 (lo (X xs) j))).setCell ⟨w.heap.size, 1, none⟩ (.int .i64 (lo (Y xs) j))).heap[w.heap.size]? = some (.cells #[.int .i64 (lo (X xs) j), .int .i64 (lo (Y xs) j), .int .i64 (0), .int .i64 (0)] 27 (0, 0)) := blk_set S0 1 _
        have S2 : (((wr.setCell ⟨w.heap.size, 0, none⟩ (.int .i64 (lo (X xs) j))).setCell ⟨w.heap.size, 1, none⟩ (.int .i64 (lo (Y xs) j))).setCell ⟨w.heap.size, 2, none⟩ (.int .i64 (hi (X xs) j))).heap[w.heap.size]? = some (.cells #[.int .i64 (lo (X xs) j), .int .i64 (lo (Y xs) j), .int .i64 (hi (X xs) j), .int .i64 (0)] 27 (0, 0)) := blk_set S1 2 _
        have S3 : ((((wr.setCell ⟨w.heap.size, 0, none⟩ (.int .i64 (lo (X xs) j))).setCell ⟨w.heap.size, 1, none⟩ (.int .i64 (lo (Y xs) j))).setCell ⟨w.heap.size, 2, none⟩ (.int .i64 (hi (X xs) j))).setCell ⟨w.heap.size, 3, none⟩ (.int .i64 (hi (Y xs) j))).heap[w.heap.size]? = some (.cells #[.int .i64 (lo (X xs) j), .int .i64 (lo (Y xs) j), .int .i64 (hi (X xs) j), .int .i64 (hi (Y xs) j)] 27 (0, 0)) := blk_set S2 3 _
        have r0 := blk_cell S3 0
        have r1 := blk_cell S3 1
        have r2 := blk_cell S3 2
        have r3 := blk_cell S3 3
        exact bodyPost_ret (v := .tuple #[arr4 (lo (X xs) j) (lo (Y xs) j) (hi (X xs) j) (hi (Y xs) j), .bool true]) (by simp [results, Try.results13, go_sem, arr4, r0, r1, r2, r3]) rfl ⟨by unfold Btuple; rw [HB.out]; rfl, kept_set (kept_set (kept_set (kept_set (hk) (p := ⟨w.heap.size, 0, none⟩) (Nat.le_refl _) _) (p := ⟨w.heap.size, 1, none⟩) (Nat.le_refl _) _) (p := ⟨w.heap.size, 2, none⟩) (Nat.le_refl _) _) (p := ⟨w.heap.size, 3, none⟩) (Nat.le_refl _) _⟩
end Go.Proofs.Ytkifafdbobhlpaa
