/-
  Layer 22's statements: the walks of forms, finds, turns, all, sizes.
-/
import Derived.Test.YthbbkmkaopgmdaaLaw22
namespace Go.Proofs.Ythbbkmkaopgmdaa
open Go.RowKit BG
attribute [local go_sem ↓] Go.wp_at_zero Go.wp_at_succ
set_option linter.unusedVariables false

theorem sizes_law (W V : Int) (xs : List Int) (n : Nat) (s : ByteArray) (z0 z1 : Int) : findE W V xs n s z0 = 0 → findE W V xs n s z1 = 0 → findL W V xs n s z0 = findL W V xs n s z1 := by
  unfold findE findL findOk
  cases fok W V xs n s
  · intro h; cases h
  · cases fitb W.toNat V.toNat n s.size
    · intro _ _; rfl
    · cases szb (longN W.toNat V.toNat n) z0
      · intro h; cases h
      · cases szb (longN W.toNat V.toNat n) z1
        · intro _ h; cases h
        · intro _ _; rfl
set_option maxRecDepth 100000 in
set_option maxHeartbeats 8000000 in
theorem gridForms_w (W V : Int) (s : ByteArray) (A : Option Addr) (cap n : Nat) (xs : List Int) (hl : xs.length = 4 * n) (hn : n ≤ 9223372036854775807) (hs : s.size ≤ 9223372036854775807) (hu : U64 xs) (w : World) (hr : 4 * n ≤ 9223372036854775807 → Rd .u64 w A xs) : Calls Try.prog 3 #[fieldV W s, maskV V A n cap] w (Ret (.bool true) w) := by
  have ka := kept_alloc (kept_alloc (kept_refl w) (.cells #[.int .i64 W, .string s] 23)) (.cells #[.int .i64 V, .slice A n cap] 26)
  have hbf := blk_alloc (blk_new w (.cells #[.int .i64 W, .string s] 23)) (.cells #[.int .i64 V, .slice A n cap] 26)
  have hbm := blk_new1 w (.cells #[.int .i64 W, .string s] 23) (.cells #[.int .i64 V, .slice A n cap] 26)
  have FW := fun w1 => few22_c W V s A cap n hn hs w1
  by_cases hfew : s.size ≤ 400 ∧ n ≤ 400
  · have hr := hr (by omega)
    rw [show few22 s.size n = true by unfold few22; simp [hfew.1, hfew.2]] at FW
    go_enter Try.func3, Try.ntmps3
    go_wp2_with fail
    refine (FW _).mono ?_
    rintro e w1 ⟨rfl, hk1⟩
    replace hbf := blk_kept hk1 hbf
    replace hbm := blk_kept hk1 hbm
    have hk := kept_trans ka hk1
    have rd := hr.kept hk
    clear FW ka hk1 hr
    have f0 : w1.cell? ⟨w.heap.size, 0, none⟩ = some (.int .i64 W) := cell_at hbf 0 rfl
    have f1 : w1.cell? ⟨w.heap.size, 1, none⟩ = some (.string s) := cell_at hbf 1 rfl
    have m0 : w1.cell? ⟨w.heap.size + 1, 0, none⟩ = some (.int .i64 V) := cell_at hbm 0 rfl
    have m1 : w1.cell? ⟨w.heap.size + 1, 1, none⟩ = some (.slice A n cap) := cell_at hbm 1 rfl
    have R1 := fun w => fieldright_c W s hs w
    have R2 := fun w => rfieldright_c W s hs w
    have M1 := fun w h => may_c V A cap n xs hu hl w h
    have M2 := fun w h => rmay_c V A cap n xs hu hl w h
    have AV := fun w => alive22_c w
    generalize rowsb W s.size = rb at *
    generalize mayb V xs n = mb at *
    have q1 : (rb == rb) = true := beq_self_eq_true rb
    have q2 : (mb == mb) = true := beq_self_eq_true mb
    go_wp2_with fail
    have fs_0 := fun s => kw_cell s f0
    have fs_1 := fun s => kw_cell s f1
    have ms_0 := fun s => kw_cell s m0
    have ms_1 := fun s => kw_cell s m1
    refine wp_region_kept (by kernel_rfl) (by kernel_rfl) ?_
    repeat (first | go_big_quiet_skip | (go_big_quiet_want; go_big_quiet_op; first | go_big_quiet_on | (apply Exists.intro; refine ⟨fun s => ?_, ?_⟩; (first | (go_at_call 10; exact call_kept (AV _)) | (go_at_call 11; exact call_kept (R1 _)) | (go_at_call 12; exact call_kept (R2 _)) | (go_at_call 13; exact call_kept (M1 _ (rd.kept s.kept))) | (go_at_call 14; exact call_kept (M2 _ (rd.kept s.kept)))); go_big_quiet_on)))
    refine wpQuiet_nil ?_
    rintro w9 ⟨⟨_, hk9⟩, rfl⟩
    clear fs_0 fs_1 ms_0 ms_1 f0 f1 m0 m1 R1 R2 M1 M2 AV
    go_wp2_with fail
    go_ret
    exact ⟨by simp, kept_trans hk hk9⟩
  · rw [show few22 s.size n = false by unfold few22; simp; omega] at FW
    go_enter Try.func3, Try.ntmps3
    go_wp2_with fail
    refine (FW _).mono ?_
    rintro e w1 ⟨rfl, hk1⟩
    go_wp2_with fail
    refine (alive22_c _).mono ?_
    rintro e w2 ⟨rfl, hk2⟩
    go_wp2_with fail
    go_ret
    exact ⟨rfl, kept_trans ka (kept_trans hk1 hk2)⟩
set_option maxRecDepth 100000 in
set_option maxHeartbeats 8000000 in
theorem gridFinds_w (W V : Int) (s : ByteArray) (A : Option Addr) (cap n : Nat) (xs : List Int) (size : Int) (hl : xs.length = 4 * n) (hn : n ≤ 9223372036854775807) (hs : s.size ≤ 9223372036854775807) (hu : U64 xs) (w : World) (hr : 4 * n ≤ 9223372036854775807 → Rd .u64 w A xs) : Calls Try.prog 4 #[fieldV W s, maskV V A n cap, .int .i64 size] w (Ret (.bool true) w) := by
  have ka := kept_alloc (kept_alloc (kept_refl w) (.cells #[.int .i64 W, .string s] 23)) (.cells #[.int .i64 V, .slice A n cap] 26)
  have hbf := blk_alloc (blk_new w (.cells #[.int .i64 W, .string s] 23)) (.cells #[.int .i64 V, .slice A n cap] 26)
  have hbm := blk_new1 w (.cells #[.int .i64 W, .string s] 23) (.cells #[.int .i64 V, .slice A n cap] 26)
  have FW := fun w1 => few22_c W V s A cap n hn hs w1
  by_cases hfew : s.size ≤ 400 ∧ n ≤ 400
  · have hr := hr (by omega)
    rw [show few22 s.size n = true by unfold few22; simp [hfew.1, hfew.2]] at FW
    go_enter Try.func4, Try.ntmps4
    go_wp2_with fail
    refine (FW _).mono ?_
    rintro e w1 ⟨rfl, hk1⟩
    replace hbf := blk_kept hk1 hbf
    replace hbm := blk_kept hk1 hbm
    have hk := kept_trans ka hk1
    have rd := hr.kept hk
    clear FW ka hk1 hr
    have f0 : w1.cell? ⟨w.heap.size, 0, none⟩ = some (.int .i64 W) := cell_at hbf 0 rfl
    have f1 : w1.cell? ⟨w.heap.size, 1, none⟩ = some (.string s) := cell_at hbf 1 rfl
    have m0 : w1.cell? ⟨w.heap.size + 1, 0, none⟩ = some (.int .i64 V) := cell_at hbm 0 rfl
    have m1 : w1.cell? ⟨w.heap.size + 1, 1, none⟩ = some (.slice A n cap) := cell_at hbm 1 rfl
    have S1 := fun w1 h => find_c W V A cap n xs s size hu hl (by omega) (by omega) w1 h
    have S2 := fun w1 h => rfind_c W V A cap n xs s size hu hl (by omega) (by omega) w1 h
    have AV := fun w => alive22_c w
    unfold AnsF at S1 S2
    have hle := findL_le W V xs n s size
    have hlen := flatP_length W.toNat (findL W V xs n s size)
    generalize findL W V xs n s size = fl at *
    generalize flatP W.toNat fl = fp at *
    generalize findN W V xs n s size = fn at *
    generalize findE W V xs n s size = fe at *
    go_wp2_with fail
    refine (S1 _ rd).mono ?_
    rintro e w2 ⟨v2, rfl, own2, hk2⟩
    obtain ⟨A2, c2, rfl, hl2, rd2⟩ := own2.rd (by omega)
    replace hbf := blk_kept hk2 hbf
    replace hbm := blk_kept hk2 hbm
    replace hk := kept_trans hk hk2
    replace rd := rd.kept hk2
    clear f0 f1 m0 m1 S1 hk2 own2
    have f0 : w2.cell? ⟨w.heap.size, 0, none⟩ = some (.int .i64 W) := cell_at hbf 0 rfl
    have f1 : w2.cell? ⟨w.heap.size, 1, none⟩ = some (.string s) := cell_at hbf 1 rfl
    have m0 : w2.cell? ⟨w.heap.size + 1, 0, none⟩ = some (.int .i64 V) := cell_at hbm 0 rfl
    have m1 : w2.cell? ⟨w.heap.size + 1, 1, none⟩ = some (.slice A n cap) := cell_at hbm 1 rfl
    go_wp2_with fail
    refine (S2 _ rd).mono ?_
    rintro e w3 ⟨v3, rfl, own3, hk3⟩
    obtain ⟨A3, c3, rfl, hl3, rd3⟩ := own3.rd (by omega)
    replace rd2 := rd2.kept hk3
    replace hk := kept_trans hk hk3
    clear f0 f1 m0 m1 S2 hk3 own3
    go_wp2_with fail
    refine (AV _).mono ?_
    rintro e w4 ⟨rfl, hk4⟩
    have SM := samep_c A2 A3 c2 c3 fp fp fl.length fl.length hl2 hl3 w4 (rd2.kept hk4) (rd3.kept hk4)
    rw [show sameP21 fp fp = true by simp [sameP21]] at SM
    replace hk := kept_trans hk hk4
    clear hk4 rd2 rd3 AV
    go_wp2_with fail
    refine SM.mono ?_
    rintro e w5 ⟨rfl, hk5⟩
    clear SM
    go_wp2_with fail
    go_ret
    exact ⟨by simp, kept_trans hk hk5⟩
  · rw [show few22 s.size n = false by unfold few22; simp; omega] at FW
    go_enter Try.func4, Try.ntmps4
    go_wp2_with fail
    refine (FW _).mono ?_
    rintro e w1 ⟨rfl, hk1⟩
    go_wp2_with fail
    refine (alive22_c _).mono ?_
    rintro e w2 ⟨rfl, hk2⟩
    go_wp2_with fail
    go_ret
    exact ⟨rfl, kept_trans ka (kept_trans hk1 hk2)⟩
set_option maxRecDepth 100000 in
set_option maxHeartbeats 8000000 in
theorem gridSizes_w (W V : Int) (s : ByteArray) (A : Option Addr) (cap n : Nat) (xs : List Int) (z0 z1 : Int) (hl : xs.length = 4 * n) (hn : n ≤ 9223372036854775807) (hs : s.size ≤ 9223372036854775807) (hu : U64 xs) (w : World) (hr : 4 * n ≤ 9223372036854775807 → Rd .u64 w A xs) : Calls Try.prog 7 #[fieldV W s, maskV V A n cap, .agg #[.int .i64 z0, .int .i64 z1]] w (Ret (.bool true) w) := by
  have ka := kept_alloc (kept_alloc (kept_alloc (kept_refl w) (.cells #[.int .i64 W, .string s] 23)) (.cells #[.int .i64 V, .slice A n cap] 26)) (.cells #[.int .i64 z0, .int .i64 z1] 53)
  have hbf := blk_alloc (blk_alloc (blk_new w (.cells #[.int .i64 W, .string s] 23)) (.cells #[.int .i64 V, .slice A n cap] 26)) (.cells #[.int .i64 z0, .int .i64 z1] 53)
  have hbm := blk_alloc (blk_new1 w (.cells #[.int .i64 W, .string s] 23) (.cells #[.int .i64 V, .slice A n cap] 26)) (.cells #[.int .i64 z0, .int .i64 z1] 53)
  have hbz := blk_new (((w.alloc (.cells #[.int .i64 W, .string s] 23)).alloc (.cells #[.int .i64 V, .slice A n cap] 26))) (.cells #[.int .i64 z0, .int .i64 z1] 53)
  have FW := fun w1 => few22_c W V s A cap n hn hs w1
  by_cases hfew : s.size ≤ 400 ∧ n ≤ 400
  · have hr := hr (by omega)
    rw [show few22 s.size n = true by unfold few22; simp [hfew.1, hfew.2]] at FW
    go_enter Try.func7, Try.ntmps7
    go_wp2_with fail
    refine (FW _).mono ?_
    rintro e w1 ⟨rfl, hk1⟩
    replace hbf := blk_kept hk1 hbf
    replace hbm := blk_kept hk1 hbm
    have hk := kept_trans ka hk1
    have rd := hr.kept hk
    replace hbz := blk_kept hk1 hbz
    rw [show (((w.alloc (.cells #[.int .i64 W, .string s] 23)).alloc (.cells #[.int .i64 V, .slice A n cap] 26))).heap.size = w.heap.size + 2 by simp] at hbz
    have y0 : w1.cell? ⟨w.heap.size + 2, 0, none⟩ = some (.int .i64 z0) := cell_at hbz 0 rfl
    have y1 : w1.cell? ⟨w.heap.size + 2, 1, none⟩ = some (.int .i64 z1) := cell_at hbz 1 rfl
    clear FW ka hk1 hr
    have f0 : w1.cell? ⟨w.heap.size, 0, none⟩ = some (.int .i64 W) := cell_at hbf 0 rfl
    have f1 : w1.cell? ⟨w.heap.size, 1, none⟩ = some (.string s) := cell_at hbf 1 rfl
    have m0 : w1.cell? ⟨w.heap.size + 1, 0, none⟩ = some (.int .i64 V) := cell_at hbm 0 rfl
    have m1 : w1.cell? ⟨w.heap.size + 1, 1, none⟩ = some (.slice A n cap) := cell_at hbm 1 rfl
    have S1 := fun w1 h => find_c W V A cap n xs s z0 hu hl (by omega) (by omega) w1 h
    have S2 := fun w1 h => find_c W V A cap n xs s z1 hu hl (by omega) (by omega) w1 h
    have AV := fun w => alive22_c w
    unfold AnsF at S1 S2
    have hle := findL_le W V xs n s z0
    have hle2 := findL_le W V xs n s z1
    have hlen := flatP_length W.toNat (findL W V xs n s z0)
    have hlen2 := flatP_length W.toNat (findL W V xs n s z1)
    have hlaw := sizes_law W V xs n s z0 z1
    generalize findL W V xs n s z0 = fl at *
    generalize findN W V xs n s z0 = fn at *
    generalize findE W V xs n s z0 = fe at *
    generalize findL W V xs n s z1 = gl at *
    generalize findN W V xs n s z1 = gn at *
    generalize findE W V xs n s z1 = ge at *
    have HL := Lib.hid hlaw
    clear hlaw
    go_wp2_with fail
    refine (S1 _ rd).mono ?_
    rintro e w2 ⟨v2, rfl, own2, hk2⟩
    obtain ⟨A2, c2, rfl, hl2, rd2⟩ := own2.rd (by omega)
    replace hbz := blk_kept hk2 hbz
    replace hbf := blk_kept hk2 hbf
    replace hbm := blk_kept hk2 hbm
    replace hk := kept_trans hk hk2
    replace rd := rd.kept hk2
    clear f0 f1 m0 m1 S1 hk2 own2 y0 y1
    have f0 : w2.cell? ⟨w.heap.size, 0, none⟩ = some (.int .i64 W) := cell_at hbf 0 rfl
    have f1 : w2.cell? ⟨w.heap.size, 1, none⟩ = some (.string s) := cell_at hbf 1 rfl
    have m0 : w2.cell? ⟨w.heap.size + 1, 0, none⟩ = some (.int .i64 V) := cell_at hbm 0 rfl
    have m1 : w2.cell? ⟨w.heap.size + 1, 1, none⟩ = some (.slice A n cap) := cell_at hbm 1 rfl
    have y1 : w2.cell? ⟨w.heap.size + 2, 1, none⟩ = some (.int .i64 z1) := cell_at hbz 1 rfl
    go_wp2_with fail
    refine (S2 _ rd).mono ?_
    rintro e w3 ⟨v3, rfl, own3, hk3⟩
    obtain ⟨A3, c3, rfl, hl3, rd3⟩ := own3.rd (by omega)
    replace rd2 := rd2.kept hk3
    replace hk := kept_trans hk hk3
    clear f0 f1 m0 m1 y1 S2 hk3 own3
    go_wp2_with fail
    refine (AV _).mono ?_
    rintro e w4 ⟨rfl, hk4⟩
    replace rd2 := rd2.kept hk4
    replace rd3 := rd3.kept hk4
    replace hk := kept_trans hk hk4
    clear hk4 AV
    by_cases he : fe = 0
    · subst he
      by_cases hg : ge = 0
      · subst hg
        obtain rfl : fl = gl := HL.out rfl rfl
        have SM := samep_c A2 A3 c2 c3 (flatP W.toNat fl) (flatP W.toNat fl) fl.length fl.length hl2 hl3 w4 rd2 rd3
        rw [show sameP21 (flatP W.toNat fl) (flatP W.toNat fl) = true by simp [sameP21]] at SM
        clear rd2 rd3 HL
        go_wp2_with fail
        refine SM.mono ?_
        rintro e w5 ⟨rfl, hk5⟩
        clear SM
        go_wp2_with fail
        go_ret
        exact ⟨by simp, kept_trans hk hk5⟩
      · have g1 : (ge != 0) = true := bne_iff_ne.2 hg
        have g2 : (ge == 0) = false := beq_eq_false_iff_ne.2 hg
        clear HL rd2 rd3
        go_wp2_with fail
        go_ret
        exact ⟨by simp, hk⟩
    · have g1 : (fe != 0) = true := bne_iff_ne.2 he
      have g2 : (fe == 0) = false := beq_eq_false_iff_ne.2 he
      clear HL rd2 rd3
      go_wp2_with fail
      go_ret
      exact ⟨by simp, hk⟩
  · rw [show few22 s.size n = false by unfold few22; simp; omega] at FW
    go_enter Try.func7, Try.ntmps7
    go_wp2_with fail
    refine (FW _).mono ?_
    rintro e w1 ⟨rfl, hk1⟩
    go_wp2_with fail
    refine (alive22_c _).mono ?_
    rintro e w2 ⟨rfl, hk2⟩
    go_wp2_with fail
    go_ret
    exact ⟨rfl, kept_trans ka (kept_trans hk1 hk2)⟩
end Go.Proofs.Ythbbkmkaopgmdaa
