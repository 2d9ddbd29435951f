/-
  Layer 22's statements: few, alive.
-/
import Derived.Test.YthbbkmkaopgmdaaWGrid12
namespace Go.Proofs.Ythbbkmkaopgmdaa
open Go.RowKit BG
attribute [local go_sem ↓] Go.wp_at_zero Go.wp_at_succ
set_option linter.unusedVariables false

theorem eq3 (a b c d e f : Int) (w : World) : (Op.equalIn 10000 52 (.agg #[.int .i64 a, .int .i64 b, .int .i64 c]) (.agg #[.int .i64 d, .int .i64 e, .int .i64 f])).run Try.prog w = .ok ([a, b, c] == [d, e, f]) w :=
  run_equalIn_ints w .i64 9998 52 3 3 Try.underlying52 Try.underlying3 (fun w => by kernel_rfl) [a, b, c] [d, e, f] rfl rfl
theorem eq3_same (a b c : Int) (w : World) : (Op.equalIn 10000 52 (.agg #[.int .i64 a, .int .i64 b, .int .i64 c]) (.agg #[.int .i64 a, .int .i64 b, .int .i64 c])).run Try.prog w = .ok true w := by rw [eq3]; simp
theorem addr0 (ad : Addr) : ad.add 0 = ad := by unfold Addr.add; split <;> simp_all
def few22 (m n : Nat) : Bool := decide (m ≤ 400) && decide (n ≤ 400)
theorem few22_c (W V : Int) (s : ByteArray) (A : Option Addr) (cap n : Nat) (hn : n ≤ 9223372036854775807) (hs : s.size ≤ 9223372036854775807) (w : World) : Calls Try.prog 9 #[fieldV W s, maskV V A n cap] w (Ret (.bool (few22 s.size n)) w) := by
  unfold few22
  have ka := kept_alloc (kept_alloc (kept_refl w) (.cells #[.int .i64 W, .string s] 23)) (.cells #[.int .i64 V, .slice A n cap] 26)
  by_cases h1 : s.size ≤ 400
  · rw [decide_eq_true h1, Bool.true_and]
    by_cases h2 : n ≤ 400
    · rw [decide_eq_true h2]
      go_enter Try.func9, Try.ntmps9
      go_wp2_with fail
      go_ret
      exact ⟨by simp; omega, ka⟩
    · rw [decide_eq_false h2]
      go_enter Try.func9, Try.ntmps9
      go_wp2_with fail
      go_ret
      exact ⟨by simp; omega, ka⟩
  · rw [decide_eq_false h1, Bool.false_and]
    have h1' : decide ((s.size : Int) ≤ 400) = false := decide_eq_false (by omega)
    go_enter Try.func9, Try.ntmps9
    go_wp2_with fail
    go_ret
    exact ⟨by simp, ka⟩
def xsM : List Int := [0, 8589934592, 0, 0, 0, 17179869184, 0, 0]
def sF : ByteArray := ⟨#[97, 98, 98, 97, 97, 98]⟩
def sG : ByteArray := ⟨#[97, 98, 99]⟩
theorem a22_1 : ofT ⟨#[97]⟩ 1 = ⟨0, 8589934592, 0, 0⟩ ∧ ofT ⟨#[98]⟩ 1 = ⟨0, 17179869184, 0, 0⟩ := by decide +kernel
theorem a22_f : findL 2 1 xsM 2 sF 4 = [0, 3] ∧ findN 2 1 xsM 2 sF 4 = 30 ∧ findE 2 1 xsM 2 sF 4 = 0 := by decide +kernel
theorem a22_g : findL 2 1 xsM 2 sG 4 = [] ∧ findN 2 1 xsM 2 sG 4 = 0 ∧ findE 2 1 xsM 2 sG 4 = 220 := by decide +kernel
theorem a22_h : findL 2 1 xsM 2 sF 2 = [] ∧ findN 2 1 xsM 2 sF 2 = 0 ∧ findE 2 1 xsM 2 sF 2 = 50 := by decide +kernel
theorem a22_t : turnF xsM 1 2 1 = [0, 17179869184, 0, 0, 0, 8589934592, 0, 0] ∧ wideN 1 2 1 = 2 := by decide +kernel
theorem a22_a : flat3 2 (allP 2 1 xsM 2 sF 4) = [0, 0, 0, 0, 1, 1, 1, 0, 1, 2, 1, 0, 2, 0, 1, 3, 0, 0, 3, 0, 2] ∧ (allP 2 1 xsM 2 sF 4).length = 7 ∧ allE 2 1 xsM 2 sF 4 = 0 := by decide +kernel
theorem a22_m : mayb 1 xsM 2 = true ∧ mayb 0 [] 0 = false ∧ mayb 1 [] 0 = false ∧ rowsb 2 6 = true := by decide +kernel
theorem uM : U64 xsM := u64_all (by decide)
theorem uN : U64 [] := fun j => by simp [nth]
set_option maxRecDepth 100000 in
set_option maxHeartbeats 16000000 in
theorem alive22_c (w : World) : Calls Try.prog 10 #[] w (Ret (.bool true) w) := by
  have OA := fun w => classOf_c ⟨#[97]⟩ (by decide) w
  have OB := fun w => classOf_c ⟨#[98]⟩ (by decide) w
  rw [show (⟨#[97]⟩ : ByteArray).size = 1 from rfl, a22_1.1] at OA
  rw [show (⟨#[98]⟩ : ByteArray).size = 1 from rfl, a22_1.2] at OB
  dsimp only [Cl.v] at OA OB
  have FF := fun A cap w h => find_c 2 1 A cap 2 xsM sF 4 uM rfl (by decide) (by decide) w h
  have FG := fun A cap w h => find_c 2 1 A cap 2 xsM sG 4 uM rfl (by decide) (by decide) w h
  have FH := fun A cap w h => find_c 2 1 A cap 2 xsM sF 2 uM rfl (by decide) (by decide) w h
  have TT := fun A cap w h => turnm_c 1 A cap 2 xsM 1 (by decide) (by decide) uM rfl (by decide) w h
  have TZ := fun w => turnm_c 0 none 0 0 [] 1 (by decide) (by decide) uN rfl (by decide) w (Rd.nil _ _ _)
  have AL := fun A cap w h => all_c 2 1 A cap 2 xsM sF 4 uM rfl (by decide) (by decide) w h
  have RF := fun w => fieldright_c 2 sF (by decide) w
  have MM := fun A cap w h => may_c 1 A cap 2 xsM uM rfl w h
  have MZ := fun w => may_c 1 none 0 0 [] uN rfl w (Rd.nil _ _ _)
  unfold AnsF at FF FG FH
  rw [a22_f.1, a22_f.2.1, a22_f.2.2] at FF
  rw [a22_g.1, a22_g.2.1, a22_g.2.2] at FG
  rw [a22_h.1, a22_h.2.1, a22_h.2.2] at FH
  unfold AnsA at AL
  rw [show ((2 : Int)).toNat = 2 from rfl, a22_a.1, a22_a.2.1, a22_a.2.2] at AL
  rw [show sF.size = 6 from rfl, a22_m.2.2.2] at RF
  rw [a22_m.1] at MM
  rw [a22_m.2.2.1] at MZ
  unfold sF at FF FH AL RF
  unfold sG at FG
  go_enter Try.func10, Try.ntmps10
  go_wp2_with fail
  refine (OA _).mono ?_
  rintro e w1 ⟨rfl, hk1⟩
  go_wp2_with fail
  refine (OB _).mono ?_
  rintro e w2 ⟨rfl, hk2⟩
  have hbf := blk_kept (kept_trans hk1 hk2) (blk_new w (.cells #[.int .i64 2, .string ⟨#[97, 98, 98, 97, 97, 98]⟩] 30))
  have ka := kept_trans (kept_alloc (kept_refl w) (.cells #[.int .i64 2, .string ⟨#[97, 98, 98, 97, 97, 98]⟩] 30)) (kept_trans hk1 hk2)
  have f0 : w2.cell? ⟨w.heap.size, 0, none⟩ = some (.int .i64 2) := cell_at hbf 0 rfl
  have f1 : w2.cell? ⟨w.heap.size, 1, none⟩ = some (.string ⟨#[97, 98, 98, 97, 97, 98]⟩) := cell_at hbf 1 rfl
  have hlt := blk_lt' hbf
  have rdA := blk_rd (k := .u64) (xs := xsM) (blk_alloc (blk_new w2 (.cells (xsM.map (Value.int .u64)).toArray 61)) (.cells #[.int .i64 1, .slice (some ⟨w2.heap.size, 0, none⟩) 2 2] 33)) (by decide)
  have hbm := blk_new1 w2 (.cells (xsM.map (Value.int .u64)).toArray 61) (.cells #[.int .i64 1, .slice (some ⟨w2.heap.size, 0, none⟩) 2 2] 33)
  have kb := kept_alloc (kept_alloc (kept_refl w2) (.cells (xsM.map (Value.int .u64)).toArray 61)) (.cells #[.int .i64 1, .slice (some ⟨w2.heap.size, 0, none⟩) 2 2] 33)
  replace hbf := blk_kept kb hbf
  replace ka := kept_trans ka kb
  clear hk1 hk2 kb
  go_wp2_with fail
  refine (FF _ 2 _ rdA).mono ?_
  rintro e w3 ⟨v3, rfl, own3, hk3⟩
  have hk := kept_trans ka hk3
  replace hbm := blk_kept hk3 hbm
  replace hbf := blk_kept hk3 hbf
  replace rdA := rdA.kept hk3
  obtain ⟨g3, c3, rfl, _, _⟩ := own3.pos (by decide) (by decide)
  clear hk3 FF f0 f1 hlt ka
  generalize w2.heap.size = G2 at *
  generalize w.heap.size = G1 at *
  have f0 : w3.cell? ⟨G1, 0, none⟩ = some (.int .i64 2) := cell_at hbf 0 rfl
  have f1 : w3.cell? ⟨G1, 1, none⟩ = some (.string ⟨#[97, 98, 98, 97, 97, 98]⟩) := cell_at hbf 1 rfl
  have m0 : w3.cell? ⟨G2 + 1, 0, none⟩ = some (.int .i64 1) := cell_at hbm 0 rfl
  have m1 : w3.cell? ⟨G2 + 1, 1, none⟩ = some (.slice (some ⟨G2, 0, none⟩) 2 2) := cell_at hbm 1 rfl
  go_wp2_with fail
  refine (FG _ 2 _ rdA).mono ?_
  rintro e w4 ⟨v4, rfl, _, hk4⟩
  replace hk := kept_trans hk hk4
  replace hbm := blk_kept hk4 hbm
  replace hbf := blk_kept hk4 hbf
  replace rdA := rdA.kept hk4
  replace own3 := own3.kept hk4
  clear hk4 FG f0 f1 m0 m1
  have f0 : w4.cell? ⟨G1, 0, none⟩ = some (.int .i64 2) := cell_at hbf 0 rfl
  have f1 : w4.cell? ⟨G1, 1, none⟩ = some (.string ⟨#[97, 98, 98, 97, 97, 98]⟩) := cell_at hbf 1 rfl
  have m0 : w4.cell? ⟨G2 + 1, 0, none⟩ = some (.int .i64 1) := cell_at hbm 0 rfl
  have m1 : w4.cell? ⟨G2 + 1, 1, none⟩ = some (.slice (some ⟨G2, 0, none⟩) 2 2) := cell_at hbm 1 rfl
  go_wp2_with fail
  refine (FH _ 2 _ rdA).mono ?_
  rintro e w5 ⟨v5, rfl, _, hk5⟩
  replace hk := kept_trans hk hk5
  replace hbm := blk_kept hk5 hbm
  replace hbf := blk_kept hk5 hbf
  replace rdA := rdA.kept hk5
  replace own3 := own3.kept hk5
  clear hk5 FH f0 f1 m0 m1
  have f0 : w5.cell? ⟨G1, 0, none⟩ = some (.int .i64 2) := cell_at hbf 0 rfl
  have f1 : w5.cell? ⟨G1, 1, none⟩ = some (.string ⟨#[97, 98, 98, 97, 97, 98]⟩) := cell_at hbf 1 rfl
  have m0 : w5.cell? ⟨G2 + 1, 0, none⟩ = some (.int .i64 1) := cell_at hbm 0 rfl
  have m1 : w5.cell? ⟨G2 + 1, 1, none⟩ = some (.slice (some ⟨G2, 0, none⟩) 2 2) := cell_at hbm 1 rfl
  go_wp2_with fail
  refine (TT _ 2 _ rdA).mono ?_
  rintro e w6 (⟨_, A6, c6, rfl, rd6, hk6, _⟩ | ⟨hbad, _, _⟩)
  rotate_left
  · rw [a22_m.1] at hbad; cases hbad
  rw [show ((1 : Int)).toNat = 1 from rfl, show 2 / 1 = 2 from rfl, a22_t.2]
  rw [show ((1 : Int)).toNat = 1 from rfl, a22_t.1] at rd6
  replace hk := kept_trans hk hk6
  replace hbm := blk_kept hk6 hbm
  replace hbf := blk_kept hk6 hbf
  replace rdA := rdA.kept hk6
  replace own3 := own3.kept hk6
  clear hk6 TT f0 f1 m0 m1
  have kb := kept_alloc (kept_refl w6) (.cells #[.int .i64 2, .slice A6 2 c6] 33)
  have hbt := blk_new w6 (.cells #[.int .i64 2, .slice A6 2 c6] 33)
  go_wp2_with fail
  refine (TZ _).mono ?_
  rintro e w7 (⟨hbad, _⟩ | ⟨_, rfl, hk7⟩)
  · rw [a22_m.2.1] at hbad; cases hbad
  replace hbt := blk_kept hk7 hbt
  replace hk7 := kept_trans kb hk7
  replace hk := kept_trans hk hk7
  replace hbm := blk_kept hk7 hbm
  replace hbf := blk_kept hk7 hbf
  replace rdA := rdA.kept hk7
  replace own3 := own3.kept hk7
  replace rd6 := rd6.kept hk7
  clear hk7 kb TZ
  generalize w6.heap.size = G6 at *
  have f0 : w7.cell? ⟨G1, 0, none⟩ = some (.int .i64 2) := cell_at hbf 0 rfl
  have f1 : w7.cell? ⟨G1, 1, none⟩ = some (.string ⟨#[97, 98, 98, 97, 97, 98]⟩) := cell_at hbf 1 rfl
  have m0 : w7.cell? ⟨G2 + 1, 0, none⟩ = some (.int .i64 1) := cell_at hbm 0 rfl
  have m1 : w7.cell? ⟨G2 + 1, 1, none⟩ = some (.slice (some ⟨G2, 0, none⟩) 2 2) := cell_at hbm 1 rfl
  have hG1 := blk_lt' hbf
  have hG2 := blk_lt' hbm
  have kb := kept_alloc (kept_refl w7) (.cells #[.int .i64 0, .slice none 0 0] 33)
  go_wp2_with fail
  refine (AL _ 2 _ (rdA.kept kb)).mono ?_
  rintro e w8 ⟨v8, rfl, own8, hk8⟩
  replace hk8 := kept_trans kb hk8
  replace hk := kept_trans hk hk8
  replace hbm := blk_kept hk8 hbm
  replace hbf := blk_kept hk8 hbf
  replace hbt := blk_kept hk8 hbt
  replace rdA := rdA.kept hk8
  replace own3 := own3.kept hk8
  replace rd6 := rd6.kept hk8
  obtain ⟨g8, c8, rfl, _, _⟩ := World.ownsRow.form own8 (by decide)
  clear hk8 kb AL f0 f1 m0 m1 hG1 hG2
  have f0 : w8.cell? ⟨G1, 0, none⟩ = some (.int .i64 2) := cell_at hbf 0 rfl
  have f1 : w8.cell? ⟨G1, 1, none⟩ = some (.string ⟨#[97, 98, 98, 97, 97, 98]⟩) := cell_at hbf 1 rfl
  have m0 : w8.cell? ⟨G2 + 1, 0, none⟩ = some (.int .i64 1) := cell_at hbm 0 rfl
  have m1 : w8.cell? ⟨G2 + 1, 1, none⟩ = some (.slice (some ⟨G2, 0, none⟩) 2 2) := cell_at hbm 1 rfl
  have t0 : w8.cell? ⟨G6, 0, none⟩ = some (.int .i64 2) := cell_at hbt 0 rfl
  have t1 : w8.cell? ⟨G6, 1, none⟩ = some (.slice A6 2 c6) := cell_at hbt 1 rfl
  obtain ⟨ad, rfl, d0, d1, d2, d3⟩ := rd6.cl (n := 2) (j := 0) rfl (by decide)
  have x0 : w8.cell? ⟨g3, 0, none⟩ = some (.int .i64 0) := World.ownsRow.cellAt own3 0 (by decide)
  have x1 : w8.cell? ⟨g3, 1, none⟩ = some (.int .i64 0) := World.ownsRow.cellAt own3 1 (by decide)
  have x2 : w8.cell? ⟨g3, 2, none⟩ = some (.int .i64 1) := World.ownsRow.cellAt own3 2 (by decide)
  have x3 : w8.cell? ⟨g3, 3, none⟩ = some (.int .i64 1) := World.ownsRow.cellAt own3 3 (by decide)
  have y0 : w8.cell? ⟨g8, 6, none⟩ = some (.int .i64 1) := World.ownsRow.cellAt own8 6 (by decide)
  have y1 : w8.cell? ⟨g8, 7, none⟩ = some (.int .i64 0) := World.ownsRow.cellAt own8 7 (by decide)
  have y2 : w8.cell? ⟨g8, 8, none⟩ = some (.int .i64 1) := World.ownsRow.cellAt own8 8 (by decide)
  change w8.cell? (ad.add 0) = some (.int .u64 0) at d0
  change w8.cell? ⟨(ad.add 0).block, (ad.add 0).off + 1, none⟩ = some (.int .u64 17179869184) at d1
  change w8.cell? ⟨(ad.add 0).block, (ad.add 0).off + 2, none⟩ = some (.int .u64 0) at d2
  change w8.cell? ⟨(ad.add 0).block, (ad.add 0).off + 3, none⟩ = some (.int .u64 0) at d3
  have h0 := d0
  have h1 := d1
  have h2 := d2
  have h3 := d3
  rw [addr0] at h0 h1 h2 h3
  clear hbm hbf hbt own3 own8 rd6
  have MM2 : ∀ (v : Value) (w' : World), Kept w8 w' → v = maskV 1 (some ⟨G2, 0, none⟩) 2 2 → Calls Try.prog 13 #[v] w' (Ret (.bool true) w') := fun v w' h e => by subst e; exact MM _ 2 _ (rdA.kept h)
  have MZ2 : ∀ (v : Value) (w' : World), v = maskV 1 none 0 0 → Calls Try.prog 13 #[v] w' (Ret (.bool false) w') := fun v w' e => by subst e; exact MZ _
  clear MM MZ
  have E1 := fun w => eq2_same 0 0 w
  have E2 := fun w => eq2_same 1 1 w
  have E3 := fun w => eqCl ⟨0, 17179869184, 0, 0⟩ ⟨0, 17179869184, 0, 0⟩ w
  have E4 := fun w => eq3_same 1 0 1 w
  rw [decide_eq_true rfl] at E3
  dsimp only [Cl.v] at E3
  go_wp2_with fail
  have fs_0 := fun s => kw_cell s f0
  have fs_1 := fun s => kw_cell s f1
  have ms_0 := fun s => kw_cell s m0
  have ms_1 := fun s => kw_cell s m1
  have ts_0 := fun s => kw_cell s t0
  have ts_1 := fun s => kw_cell s t1
  have ds_0 := fun s => kw_cell s d0
  have ds_1 := fun s => kw_cell s d1
  have ds_2 := fun s => kw_cell s d2
  have ds_3 := fun s => kw_cell s d3
  have hs_0 := fun s => kw_cell s h0
  have hs_1 := fun s => kw_cell s h1
  have hs_2 := fun s => kw_cell s h2
  have hs_3 := fun s => kw_cell s h3
  have xs_0 := fun s => kw_cell s x0
  have xs_1 := fun s => kw_cell s x1
  have xs_2 := fun s => kw_cell s x2
  have xs_3 := fun s => kw_cell s x3
  have ys_0 := fun s => kw_cell s y0
  have ys_1 := fun s => kw_cell s y1
  have ys_2 := fun s => kw_cell s y2
  refine wp_region_kept (by kernel_rfl) (by kernel_rfl) ?_
  simp only [List.append_eq, List.cons_append, List.nil_append]
  repeat (first | go_big_quiet_skip | (go_big_quiet_want; go_big_quiet_op; first | go_big_quiet_on | (apply Exists.intro; refine ⟨fun s => ?_, ?_⟩; (first | (go_at_call 25; exact call_kept (OB _)) | (go_at_call 11; exact call_kept (RF _)) | (go_at_call 13; first | exact call_kept (MM2 _ _ s.kept rfl) | exact call_kept (MZ2 _ _ rfl))); go_big_quiet_on)))
  refine wpQuiet_nil ?_
  rintro w9 ⟨⟨_, hk9⟩, rfl⟩
  clear fs_0 fs_1 ms_0 ms_1 ts_0 ts_1 ds_0 ds_1 ds_2 ds_3 hs_0 hs_1 hs_2 hs_3 xs_0 xs_1 xs_2 xs_3 ys_0 ys_1 ys_2 E1 E2 E3 E4 f0 f1 m0 m1 t0 t1 d0 d1 d2 d3 h0 h1 h2 h3 x0 x1 x2 x3 y0 y1 y2 OB RF MM2 MZ2
  go_wp2_with fail
  go_ret
  exact ⟨rfl, kept_trans hk hk9⟩
end Go.Proofs.Ythbbkmkaopgmdaa
