/-
  Layer 10's statements: the walks.
-/
import Derived.Test.YtobailigphmopaaWWildK
namespace Go.Proofs.Ytobailigphmopaa
open Go.RowKit BG
attribute [local go_sem ↓] Go.wp_at_zero Go.wp_at_succ
set_option linter.unusedVariables false

def few10 (n m : Nat) : Bool := decide (n ≤ 100) && decide (m ≤ 300)
theorem few10_c (A : Option Addr) (cap n : Nat) (K : Int) (s : ByteArray) (hn : n ≤ 9223372036854775807) (hs : s.size ≤ 9223372036854775807) (w : World) : Calls Try.prog 9 #[leafV A n cap K, .string s] w (Ret (.bool (few10 n s.size)) w) := by
  unfold few10
  have ka := kept_alloc (kept_refl w) (.cells #[.slice A n cap, .int .i64 K] 27)
  by_cases h1 : n ≤ 100
  · rw [decide_eq_true h1, Bool.true_and]
    by_cases h2 : s.size ≤ 300
    · rw [decide_eq_true h2]
      go_enter Try.func9, Try.ntmps9
      go_wp2_with fail
      go_ret
      exact ⟨by simp; omega, ka⟩
    · rw [decide_eq_false h2]
      go_enter Try.func9, Try.ntmps9
      go_wp2_with fail
      go_ret
      exact ⟨by simp; omega, ka⟩
  · rw [decide_eq_false h1, Bool.false_and]
    have h1' : decide ((n : Int) ≤ 100) = false := decide_eq_false (by omega)
    go_enter Try.func9, Try.ntmps9
    go_wp2_with fail
    go_ret
    exact ⟨by simp, ka⟩
def xsA : List Int := [0, 17179869184, 0, 0, 18446744073709551615, 18446744073709551615, 18446744073709551615, 18446744073709551615]
def xsB : List Int := [0, 25769803776, 0, 0]
def sA : ByteArray := ⟨#[97, 98, 99]⟩
theorem a10_1 : ofT ⟨#[98]⟩ 1 = ⟨0, 17179869184, 0, 0⟩ ∧ ofT ⟨#[97, 98]⟩ 2 = ⟨0, 25769803776, 0, 0⟩ := by decide +kernel
theorem a10_s : sumsL xsA 2 0 sA 4 = [99, 0] := by decide +kernel
theorem a10_sn : sumsN xsA 2 0 3 4 = 18 ∧ sumsE xsA 2 0 3 4 = 0 := by decide +kernel
theorem a10_f : findL xsA 2 0 sA 4 = [1] := by decide +kernel
theorem a10_fn : findN xsA 2 0 3 4 = 18 ∧ findE xsA 2 0 3 4 = 0 := by decide +kernel
theorem a10_z : sumsE xsA 2 0 3 1 = 50 := by decide +kernel
theorem a10_p : sumsE xsB 1 0 1 1 = 170 := by decide +kernel
theorem a10_w : weightv xsA 2 = 970299 := by decide +kernel
theorem a10_v : valv ⟨0, 17179869184, 0, 0⟩ = 99 ∧ valv fullv = 0 := by decide +kernel
theorem uA : U64 xsA := u64_all (by decide)
theorem uB : U64 xsB := u64_all (by decide)
set_option maxRecDepth 100000 in
set_option maxHeartbeats 8000000 in
theorem alive10_c (w : World) : Calls Try.prog 10 #[] w (Ret (.bool true) w) := by
  have OB := fun w => classOf_c ⟨#[98]⟩ (by decide) w
  have OA := fun w => classOf_c ⟨#[97, 98]⟩ (by decide) w
  have FU := fun w => full_c w
  rw [show (⟨#[98]⟩ : ByteArray).size = 1 from rfl, a10_1.1] at OB
  rw [show (⟨#[97, 98]⟩ : ByteArray).size = 2 from rfl, a10_1.2] at OA
  unfold fullv at FU
  dsimp only [Cl.v] at OB OA FU
  have SS := fun A cap w h => sums_c A cap 2 xsA 0 sA 4 uA rfl (by decide) w h
  have SF := fun A cap w h => find_c A cap 2 xsA 0 sA 4 uA rfl (by decide) (by decide) w h
  have SZ := fun A cap w h => sums_c A cap 2 xsA 0 sA 1 uA rfl (by decide) w h
  have SW := fun A cap w h => weight_c A cap 2 xsA 0 uA rfl (by decide) w h
  have SP := fun A cap w h => sums_c A cap 1 xsB 0 ⟨#[97]⟩ 1 uB rfl (by decide) w h
  rw [show sA.size = 3 from rfl] at SS SF SZ
  rw [a10_s, a10_sn.1, a10_sn.2] at SS
  rw [a10_f, a10_fn.1, a10_fn.2] at SF
  rw [a10_z] at SZ
  rw [show (⟨#[97]⟩ : ByteArray).size = 1 from rfl, a10_p] at SP
  rw [a10_w] at SW
  unfold sA at SS SF SZ
  have V1 := fun w => value_c ⟨0, 17179869184, 0, 0⟩ (by unfold Cl.ok u64b; decide) w
  have V2 := fun w => value_c fullv (by unfold Cl.ok u64b fullv; decide) w
  rw [a10_v.1] at V1
  rw [a10_v.2] at V2
  unfold fullv at V2
  dsimp only [Cl.v] at V1 V2
  go_enter Try.func10, Try.ntmps10
  go_wp2_with fail
  refine (OB _).mono ?_
  rintro e w1 ⟨rfl, hk1⟩
  go_wp2_with fail
  refine (FU _).mono ?_
  rintro e w2 ⟨rfl, hk2⟩
  go_wp2_with fail
  have rdA := blk_rd (k := .u64) (xs := xsA) (blk_alloc (blk_new w2 (.cells (xsA.map (Value.int .u64)).toArray 24)) (.cells #[.slice (some ⟨w2.heap.size, 0, none⟩) 2 2, .int .i64 0] 27)) (by decide)
  have hbx := blk_new1 w2 (.cells (xsA.map (Value.int .u64)).toArray 24) (.cells #[.slice (some ⟨w2.heap.size, 0, none⟩) 2 2, .int .i64 0] 27)
  have hk := kept_trans hk1 (kept_trans hk2 (kept_alloc (kept_alloc (kept_refl w2) (.cells (xsA.map (Value.int .u64)).toArray 24)) (.cells #[.slice (some ⟨w2.heap.size, 0, none⟩) 2 2, .int .i64 0] 27)))
  refine (SS _ 2 _ rdA).mono ?_
  rintro e w3 ⟨A3, cp3, rfl, rd3, hk3, _, _, _⟩
  replace hbx := blk_kept hk3 hbx
  replace hk := kept_trans hk hk3
  replace rdA := rdA.kept hk3
  have c0 : w3.cell? ⟨w2.heap.size + 1, 0, none⟩ = some (.slice (some ⟨w2.heap.size, 0, none⟩) 2 2) := blk_cell hbx 0
  have c1 : w3.cell? ⟨w2.heap.size + 1, 1, none⟩ = some (.int .i64 0) := blk_cell hbx 1
  clear hk1 hk2 hk3 SS
  generalize w2.heap.size = g2 at *
  go_wp2_with fail
  refine (SF _ 2 _ rdA).mono ?_
  rintro e w4 ⟨A4, cp4, rfl, rd4, hk4⟩
  replace hbx := blk_kept hk4 hbx
  replace hk := kept_trans hk hk4
  replace rdA := rdA.kept hk4
  replace rd3 := rd3.kept hk4
  clear c0 c1 hk4 SF
  go_wp2_with fail
  refine (text_c ⟨#[97]⟩ 1 (by decide) _).mono ?_
  rintro e w5 ⟨A5, cp5, rfl, rd5, hk5, _⟩
  replace hbx := blk_kept hk5 hbx
  replace hk := kept_trans hk hk5
  replace rdA := rdA.kept hk5
  replace rd3 := rd3.kept hk5
  replace rd4 := rd4.kept hk5
  clear hk5
  have F1 := find_c A5 cp5 1 (txtT ⟨#[97]⟩ 1) 1 ⟨#[97]⟩ 1 (txtT_u64 _ _) (txtT_length _ _) (by decide) (by decide) _ rd5
  rw [show findE (txtT ⟨#[97]⟩ 1) 1 1 (⟨#[97]⟩ : ByteArray).size 1 = 170 by unfold findE; rw [if_neg (by decide)]] at F1
  generalize findL (txtT ⟨#[97]⟩ 1) 1 1 ⟨#[97]⟩ 1 = fl at *
  generalize findN (txtT ⟨#[97]⟩ 1) 1 1 _ 1 = fn at *
  go_wp2_with fail
  refine F1.mono ?_
  rintro e w6 ⟨A6, cp6, rfl, _, hk6⟩
  replace hbx := blk_kept hk6 hbx
  replace hk := kept_trans hk hk6
  replace rdA := rdA.kept hk6
  replace rd3 := rd3.kept hk6
  replace rd4 := rd4.kept hk6
  clear hk6 F1 rd5
  go_wp2_with fail
  refine (OA _).mono ?_
  rintro e w7 ⟨rfl, hk7⟩
  replace hbx := blk_kept hk7 hbx
  replace hk := kept_trans hk hk7
  replace rdA := rdA.kept hk7
  replace rd3 := rd3.kept hk7
  replace rd4 := rd4.kept hk7
  clear hk7 OA
  have rdB := blk_rd (k := .u64) (xs := xsB) (blk_new w7 (.cells (xsB.map (Value.int .u64)).toArray 24)) (by decide)
  go_wp2_with fail
  refine (SP _ 1 _ rdB).mono ?_
  rintro e w8 ⟨A8, cp8, rfl, _, hk8, _, _, _⟩
  have hkb := kept_trans (kept_alloc (kept_refl w7) (.cells (xsB.map (Value.int .u64)).toArray 24)) hk8
  generalize sumsL xsB 1 0 ⟨#[97]⟩ 1 = sl8 at *
  generalize sumsN xsB 1 0 1 1 = sn8 at *
  replace hbx := blk_kept hkb hbx
  replace hk := kept_trans hk hkb
  replace rdA := rdA.kept hkb
  replace rd3 := rd3.kept hkb
  replace rd4 := rd4.kept hkb
  clear hk8 hkb rdB SP
  have c0 : w8.cell? ⟨g2 + 1, 0, none⟩ = some (.slice (some ⟨g2, 0, none⟩) 2 2) := blk_cell hbx 0
  have c1 : w8.cell? ⟨g2 + 1, 1, none⟩ = some (.int .i64 0) := blk_cell hbx 1
  go_wp2_with fail
  refine (SZ _ 2 _ rdA).mono ?_
  rintro e w9 ⟨A9, cp9, rfl, _, hk9, _, _, _⟩
  generalize sumsL xsA 2 0 ⟨#[97, 98, 99]⟩ 1 = sl9 at *
  generalize sumsN xsA 2 0 3 1 = sn9 at *
  replace hbx := blk_kept hk9 hbx
  replace hk := kept_trans hk hk9
  replace rdA := rdA.kept hk9
  replace rd3 := rd3.kept hk9
  replace rd4 := rd4.kept hk9
  clear c0 c1 hk9 SZ
  have S := same_c A3 (some ⟨w9.heap.size, 0, none⟩) cp3 2 [99, 0] [99, 0] _ (rd3.kept (kept_alloc (kept_refl _) (.cells #[.int .u64 99, .int .u64 0] 22))) (blk_rd (blk_new w9 (.cells #[.int .u64 99, .int .u64 0] 22)) (by decide))
  rw [sameL_refl] at S
  go_wp2_with fail
  refine S.mono ?_
  rintro e w10 ⟨rfl, hk10⟩
  have hkb := kept_trans (kept_alloc (kept_refl w9) (.cells #[.int .u64 99, .int .u64 0] 22)) hk10
  replace hbx := blk_kept hkb hbx
  replace hk := kept_trans hk hkb
  replace rdA := rdA.kept hkb
  replace rd4 := rd4.kept hkb
  clear hk10 hkb S rd3
  have S := places_c A4 (some ⟨w10.heap.size, 0, none⟩) cp4 1 [1] [1] _ (rd4.kept (kept_alloc (kept_refl _) (.cells #[.int .i64 1] 3))) (blk_rd (blk_new w10 (.cells #[.int .i64 1] 3)) (by decide))
  rw [sameL_refl] at S
  go_wp2_with fail
  refine S.mono ?_
  rintro e w11 ⟨rfl, hk11⟩
  have hkb := kept_trans (kept_alloc (kept_refl w10) (.cells #[.int .i64 1] 3)) hk11
  replace hbx := blk_kept hkb hbx
  replace hk := kept_trans hk hkb
  replace rdA := rdA.kept hkb
  clear hk11 hkb S rd4
  go_wp2_with fail
  refine (OB _).mono ?_
  rintro e w12 ⟨rfl, hk12⟩
  go_wp2_with fail
  refine (V1 _).mono ?_
  rintro e w13 ⟨rfl, hk13⟩
  go_wp2_with fail
  refine (FU _).mono ?_
  rintro e w14 ⟨rfl, hk14⟩
  go_wp2_with fail
  refine (V2 _).mono ?_
  rintro e w15 ⟨rfl, hk15⟩
  have hkb := kept_trans hk12 (kept_trans hk13 (kept_trans hk14 hk15))
  replace hbx := blk_kept hkb hbx
  replace hk := kept_trans hk hkb
  replace rdA := rdA.kept hkb
  clear hk12 hk13 hk14 hk15 hkb OB FU V1 V2
  have c0 : w15.cell? ⟨g2 + 1, 0, none⟩ = some (.slice (some ⟨g2, 0, none⟩) 2 2) := blk_cell hbx 0
  have c1 : w15.cell? ⟨g2 + 1, 1, none⟩ = some (.int .i64 0) := blk_cell hbx 1
  go_wp2_with fail
  refine (SW _ 2 _ rdA).mono ?_
  rintro e w16 ⟨rfl, hk16⟩
  clear SW c0 c1
  go_wp2_with fail
  go_ret
  exact ⟨rfl, kept_trans hk hk16⟩
set_option maxRecDepth 100000 in
set_option maxHeartbeats 8000000 in
theorem wildSums_w (A : Option Addr) (cap n : Nat) (xs : List Int) (K : Int) (s : ByteArray) (size : Int) (hl : xs.length = 4 * n) (hn : n ≤ 9223372036854775807) (hs : s.size ≤ 9223372036854775807) (hu : U64 xs) (w : World) (hr : 4 * n ≤ 9223372036854775807 → Rd .u64 w A xs) : Calls Try.prog 4 #[leafV A n cap K, .string s, .int .i64 size] w (Ret (.bool true) w) := by
  have ka := kept_alloc (kept_refl w) (.cells #[.slice A n cap, .int .i64 K] 27)
  have hb := blk_new w (.cells #[.slice A n cap, .int .i64 K] 27)
  have FW := few10_c A cap n K s hn hs (w.alloc (.cells #[.slice A n cap, .int .i64 K] 27))
  by_cases hfew : n ≤ 100 ∧ s.size ≤ 300
  · have hr := hr (by omega)
    rw [show few10 n s.size = true by unfold few10; simp [hfew.1, hfew.2]] at FW
    go_enter Try.func4, Try.ntmps4
    go_wp2_with fail
    refine FW.mono ?_
    rintro e w1 ⟨rfl, hk1⟩
    replace hb := blk_kept hk1 hb
    have hk := kept_trans ka hk1
    have rd := hr.kept hk
    clear FW ka hk1 hr
    have c0 : w1.cell? ⟨w.heap.size, 0, none⟩ = some (.slice A n cap) := blk_cell hb 0
    have c1 : w1.cell? ⟨w.heap.size, 1, none⟩ = some (.int .i64 K) := blk_cell hb 1
    have S1 := fun w1 h => sums_c A cap n xs K s size hu hl (by omega) w1 h
    have S2 := fun w1 h => rsums_c A cap n xs K s size hu hl (by omega) (by omega) w1 h
    generalize sumsL xs n K s size = sl at *
    generalize sumsN xs n K s.size size = sn at *
    generalize sumsE xs n K s.size size = se at *
    go_wp2_with fail
    refine (S1 _ rd).mono ?_
    rintro e w2 ⟨A2, cp2, rfl, rd2, hk2, _, _, _⟩
    replace hb := blk_kept hk2 hb
    replace hk := kept_trans hk hk2
    replace rd := rd.kept hk2
    clear c0 c1 hk2 S1
    have c0 : w2.cell? ⟨w.heap.size, 0, none⟩ = some (.slice A n cap) := blk_cell hb 0
    have c1 : w2.cell? ⟨w.heap.size, 1, none⟩ = some (.int .i64 K) := blk_cell hb 1
    go_wp2_with fail
    refine (S2 _ rd).mono ?_
    rintro e w3 ⟨A3, cp3, rfl, rd3, hk3, _, _, _⟩
    replace rd2 := rd2.kept hk3
    replace hk := kept_trans hk hk3
    clear c0 c1 hk3 S2 hb rd
    go_wp2_with fail
    refine (alive10_c _).mono ?_
    rintro e w4 ⟨rfl, hk4⟩
    have S := same_c A2 A3 cp2 cp3 sl sl _ (rd2.kept hk4) (rd3.kept hk4)
    rw [sameL_refl] at S
    go_wp2_with fail
    refine S.mono ?_
    rintro e w5 ⟨rfl, hk5⟩
    clear S
    go_wp2_with fail
    go_ret
    exact ⟨by simp, kept_trans hk (kept_trans hk4 hk5)⟩
  · rw [show few10 n s.size = false by unfold few10; simp; omega] at FW
    go_enter Try.func4, Try.ntmps4
    go_wp2_with fail
    refine FW.mono ?_
    rintro e w1 ⟨rfl, hk1⟩
    go_wp2_with fail
    refine (alive10_c _).mono ?_
    rintro e w2 ⟨rfl, hk2⟩
    go_wp2_with fail
    go_ret
    exact ⟨rfl, kept_trans ka (kept_trans hk1 hk2)⟩
end Go.Proofs.Ytobailigphmopaa
