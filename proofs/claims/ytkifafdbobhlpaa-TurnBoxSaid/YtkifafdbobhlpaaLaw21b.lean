/-
  Layer 21's statements: the walks.
-/
import Derived.Test.YtkifafdbobhlpaaLaw21
import Derived.Test.YtkifafdbobhlpaaTurnP
namespace Go.Proofs.Ytkifafdbobhlpaa
open Go.RowKit BG
attribute [local go_sem ↓] Go.wp_at_zero Go.wp_at_succ
set_option linter.unusedVariables false

theorem px_zero (k : Int) : Ptuple 0 0 k = .tuple #[.int .i64 0, .int .i64 0, .bool true] := by
  have a : px 0 0 k = 0 := by simp [px, rx]
  have b : py 0 0 k = 0 := by simp [py, ry]
  have c : win 0 0 = true := by decide
  unfold Ptuple; rw [a, b, c]
theorem turnPoint_w (x y k : Int) (k1 : -9223372036854775808 ≤ k) (k2 : k ≤ 9223372036854775807) (w : World) : Calls Try.prog 3 #[.int .i64 x, .int .i64 y, .int .i64 k] w (Ret (.bool true) w) := by
  obtain ⟨t1, t2, _, _⟩ := tm4 k
  have C1 := turnPoint_c x y k k1 k2
  have C2 := rPoint_c x y k
  cases hw : win x y
  · have e : Ptuple x y k = .tuple #[.int .i64 0, .int .i64 0, .bool false] := by unfold Ptuple px py; rw [hw]; rfl
    have C3 := turnPoint_c 0 0 (-(k.tmod 4)) (by omega) (by omega)
    rw [e] at C1 C2
    rw [px_zero] at C3
    clear e hw
    go_enter Try.func3, Try.ntmps3
    go_wp2_with fail
    refine (C1 _).mono ?_
    rintro e w1 ⟨rfl, hk1⟩
    go_wp2_with fail
    refine (C2 _).mono ?_
    rintro e w2 ⟨rfl, hk2⟩
    go_wp2_with fail
    refine (C3 _).mono ?_
    rintro e w3 ⟨rfl, hk3⟩
    go_wp2_with fail
    refine (alive21_c _).mono ?_
    rintro e w4 ⟨rfl, hk4⟩
    go_wp2_with fail
    go_ret
    exact ⟨rfl, kept_trans hk1 (kept_trans hk2 (kept_trans hk3 hk4))⟩
  · obtain ⟨b1, b2, b3⟩ := point_back k hw
    have C3 := turnPoint_c (px x y k) (py x y k) (-(k.tmod 4)) (by omega) (by omega)
    have e : Ptuple x y k = .tuple #[.int .i64 (px x y k), .int .i64 (py x y k), .bool true] := by unfold Ptuple; rw [hw]
    have e3 : Ptuple (px x y k) (py x y k) (-(k.tmod 4)) = .tuple #[.int .i64 x, .int .i64 y, .bool true] := by unfold Ptuple; rw [b1, b2, b3]
    rw [e] at C1 C2
    rw [e3] at C3
    clear e e3 b1 b2 b3 hw
    generalize px x y k = a at *
    generalize py x y k = b at *
    go_enter Try.func3, Try.ntmps3
    go_wp2_with fail
    refine (C1 _).mono ?_
    rintro e w1 ⟨rfl, hk1⟩
    go_wp2_with fail
    refine (C2 _).mono ?_
    rintro e w2 ⟨rfl, hk2⟩
    go_wp2_with fail
    refine (C3 _).mono ?_
    rintro e w3 ⟨rfl, hk3⟩
    go_wp2_with fail
    refine (alive21_c _).mono ?_
    rintro e w4 ⟨rfl, hk4⟩
    go_wp2_with fail
    go_ret
    exact ⟨rfl, kept_trans hk1 (kept_trans hk2 (kept_trans hk3 hk4))⟩
theorem turnBox_w (A : Option Addr) (cap : Nat) (xs : List Int) (n : Nat) (hl : xs.length = 2 * n) (w : World) (hr : Rd .i64 w A xs) : Calls Try.prog 4 #[.slice A n cap] w (Ret (.bool true) w) := by
  have hm := hr.1
  by_cases h : n ≤ 1000
  · have C1 := box_c A cap xs n hl w hr
    generalize hlx : onlyIf (boxOk xs n) (lo (X xs) n) = a at *
    generalize hly : onlyIf (boxOk xs n) (lo (Y xs) n) = b at *
    generalize hhx : onlyIf (boxOk xs n) (hi (X xs) n) = c at *
    generalize hhy : onlyIf (boxOk xs n) (hi (Y xs) n) = d at *
    have E := eq4_same a b c d
    unfold Btuple at C1
    rw [hlx, hly, hhx, hhy] at C1
    unfold arr4 at C1
    go_enter Try.func4, Try.ntmps4
    go_wp2_with fail
    refine C1.mono ?_
    rintro e w1 ⟨rfl, hk1⟩
    clear C1
    have C2 := rbox_c A cap xs n hl _ (hr.kept (kept_alloc hk1 (.cells #[.int .i64 a, .int .i64 b, .int .i64 c, .int .i64 d] 27)))
    unfold Btuple at C2
    rw [hlx, hly, hhx, hhy] at C2
    unfold arr4 at C2
    clear hlx hly hhx hhy
    generalize boxOk xs n = ok at *
    have hp := blk_new w1 (.cells #[.int .i64 a, .int .i64 b, .int .i64 c, .int .i64 d] 27)
    go_wp2_with fail
    refine C2.mono ?_
    rintro e w2 ⟨rfl, hk2⟩
    clear C2
    have HP := blk_alloc (blk_kept hk2 hp) (.cells #[.int .i64 a, .int .i64 b, .int .i64 c, .int .i64 d] 27)
    have HQ := blk_new w2 (.cells #[.int .i64 a, .int .i64 b, .int .i64 c, .int .i64 d] 27)
    have p0 := blk_cell HP 0
    have q0 := blk_cell HQ 0
    have p1 := blk_cell HP 1
    have q1 := blk_cell HQ 1
    have p2 := blk_cell HP 2
    have q2 := blk_cell HQ 2
    have p3 := blk_cell HP 3
    have q3 := blk_cell HQ 3
    clear hp HP HQ
    go_wp2_with fail
    refine (alive21_c _).mono ?_
    rintro e w3 ⟨rfl, hk3⟩
    replace p0 := kept_cell hk3 p0
    replace q0 := kept_cell hk3 q0
    replace p1 := kept_cell hk3 p1
    replace q1 := kept_cell hk3 q1
    replace p2 := kept_cell hk3 p2
    replace q2 := kept_cell hk3 q2
    replace p3 := kept_cell hk3 p3
    replace q3 := kept_cell hk3 q3
    go_wp2_with fail
    go_ret
    exact ⟨rfl, kept_trans (kept_trans hk1 (kept_trans (kept_alloc (kept_refl _) _) hk2)) (kept_trans (kept_alloc (kept_refl _) _) hk3)⟩
  · have h' : 1000 < n := by omega
    clear h
    go_enter Try.func4, Try.ntmps4
    go_wp2_with fail
    refine (alive21_c _).mono ?_
    rintro e w1 ⟨rfl, hk1⟩
    go_wp2_with fail
    go_ret
    exact ⟨rfl, hk1⟩
end Go.Proofs.Ytkifafdbobhlpaa
