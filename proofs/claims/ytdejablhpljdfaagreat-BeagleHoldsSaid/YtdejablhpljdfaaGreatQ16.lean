/-
  Texts of one claim, joined: WWild4, WWild5, WWild6, TWildJ.
-/
import Derived.Test.YtdejablhpljdfaaGreatQ15
import Derived.Test.YtdejablhpljdfaaGreatQ13
import Derived.Test.YtdejablhpljdfaaGreatQ05
namespace Go.Proofs.YtdejablhpljdfaaGreat
open Go.RowKit BG
attribute [local go_sem ↓] Go.wp_at_zero Go.wp_at_succ
set_option linter.unusedVariables false
def lay (a b : List Int) (n q : Nat) : List Int := mk n fun i => if i < q then nth a i else nth b i
theorem mk_of_nth (b : List Int) : mk b.length (nth b) = b := List.ext_getElem? fun j => by
  by_cases h : j < b.length
  · rw [List.getElem?_eq_getElem (by rw [mk_length]; exact h), ← nth_lt (by rw [mk_length]; exact h), nth_mk h, nth_lt h, ← List.getElem?_eq_getElem h]
  · rw [List.getElem?_eq_none (by rw [mk_length]; omega), List.getElem?_eq_none (by omega)]
theorem lay_zero (a b : List Int) (n : Nat) (h : b.length = n) : lay a b n 0 = b := by
  subst h
  exact mk_of_nth b
theorem lay_all (a b : List Int) (n : Nat) (h : a.length = n) : lay a b n n = a := by
  subst h
  unfold lay
  rw [mk_congr (g := nth a) fun t ht => if_pos ht]
  exact mk_of_nth a
theorem lay_set (a b : List Int) {n q : Nat} (h : q < n) : (lay a b n q).set q (nth a q) = lay a b n (q + 1) := by
  unfold lay
  rw [mk_set _ h]
  refine mk_congr fun t _ => ?_
  by_cases h1 : t = q
  · rw [if_pos h1, if_pos (by omega), h1]
  · rw [if_neg h1]
    by_cases h2 : t < q
    · rw [if_pos h2, if_pos (by omega)]
    · rw [if_neg h2, if_neg (by omega)]
theorem lay_at (a b : List Int) {n q : Nat} (h : q < n) : nth (lay a b n q) q = nth b q := by
  unfold lay
  rw [nth_mk h, if_neg (Nat.lt_irrefl q)]
set_option maxRecDepth 100000 in
set_option maxHeartbeats 4000000 in
theorem sums_wrong (A : Option Addr) (cap n : Nat) (xs : List Int) (K : Int) (s : ByteArray) (size : Int) (hu : U64 xs) (hl : xs.length = 4 * n) (hsz : s.size ≤ 1000000) (hrb : rightv xs n K = false) (w : World) (hr : Rd .u64 w A xs) : Calls Tryz.prog 143 #[leafV A n cap K, .string s, .int .i64 size] w (Ans3 (sumsL xs n K s size) (sumsN xs n K s.size size) (sumsE xs n K s.size size) w) := by
  have hm := hr.1
  have ka := kept_alloc (kept_refl w) (.cells #[.slice A n cap, .int .i64 K] 61)
  have hb := blk_new w (.cells #[.slice A n cap, .int .i64 K] 61)
  have R := right_c A cap n xs K hl _ (hr.kept ka)
  rw [hrb] at R
  have hE : sumsE xs n K s.size size = 170 := by unfold sumsE; rw [hrb]; rfl
  have hL : sumsL xs n K s size = [] := by unfold sumsL; rw [hE, if_neg (by decide)]
  have hN : sumsN xs n K s.size size = 0 := by unfold sumsN; rw [hE, if_neg (by decide)]
  rw [hE]
  have HL := Lib.hid hL
  have HN := Lib.hid hN
  clear hE hL hN
  go_enter Tryz.func143, Tryz.ntmps143
  go_wp2_with fail
  refine R.mono ?_
  rintro e w1 ⟨rfl, hk1⟩
  have hk := kept_trans ka hk1
  replace hb := blk_kept hk1 hb
  have c0 : w1.cell? ⟨w.heap.size, 0, none⟩ = some (.slice A n cap) := blk_cell hb 0
  have c1 : w1.cell? ⟨w.heap.size, 1, none⟩ = some (.int .i64 K) := blk_cell hb 1
  clear R ka hk1
  go_wp2_with fail
  exact bodyPost_ret (v := .tuple #[.slice none 0 0, .int .i64 0, .int .i64 170]) (by simp [results, Tryz.results143, go_sem]) rfl (Ans3.none HL.out HN.out hk)
set_option maxRecDepth 100000 in
set_option maxHeartbeats 4000000 in
theorem sums_rough (A : Option Addr) (cap n : Nat) (xs : List Int) (K : Int) (s : ByteArray) (size : Int) (hu : U64 xs) (hl : xs.length = 4 * n) (hsz : s.size ≤ 1000000) (hrb : rightv xs n K = true) (hpb : plainv xs n = false) (w : World) (hr : Rd .u64 w A xs) : Calls Tryz.prog 143 #[leafV A n cap K, .string s, .int .i64 size] w (Ans3 (sumsL xs n K s size) (sumsN xs n K s.size size) (sumsE xs n K s.size size) w) := by
  have hm := hr.1
  have ka := kept_alloc (kept_refl w) (.cells #[.slice A n cap, .int .i64 K] 61)
  have hb := blk_new w (.cells #[.slice A n cap, .int .i64 K] 61)
  have R := right_c A cap n xs K hl _ (hr.kept ka)
  rw [hrb] at R
  have hE : sumsE xs n K s.size size = 170 := by unfold sumsE; rw [hrb, hpb]; rfl
  have hL : sumsL xs n K s size = [] := by unfold sumsL; rw [hE, if_neg (by decide)]
  have hN : sumsN xs n K s.size size = 0 := by unfold sumsN; rw [hE, if_neg (by decide)]
  rw [hE]
  have HL := Lib.hid hL
  have HN := Lib.hid hN
  clear hE hL hN
  go_enter Tryz.func143, Tryz.ntmps143
  go_wp2_with fail
  refine R.mono ?_
  rintro e w1 ⟨rfl, hk1⟩
  have hk := kept_trans ka hk1
  replace hb := blk_kept hk1 hb
  have c0 : w1.cell? ⟨w.heap.size, 0, none⟩ = some (.slice A n cap) := blk_cell hb 0
  have c1 : w1.cell? ⟨w.heap.size, 1, none⟩ = some (.int .i64 K) := blk_cell hb 1
  clear R ka hk1
  go_wp2_with fail
  have P := plain_c A cap n xs K hu hl _ (hr.kept hk)
  rw [hpb] at P
  refine P.mono ?_
  rintro e w2 ⟨rfl, hk2⟩
  replace hb := blk_kept hk2 hb
  replace hk := kept_trans hk hk2
  clear P hk2 c0 c1
  have c0 : w2.cell? ⟨w.heap.size, 0, none⟩ = some (.slice A n cap) := blk_cell hb 0
  have c1 : w2.cell? ⟨w.heap.size, 1, none⟩ = some (.int .i64 K) := blk_cell hb 1
  go_wp2_with fail
  exact bodyPost_ret (v := .tuple #[.slice none 0 0, .int .i64 0, .int .i64 170]) (by simp [results, Tryz.results143, go_sem]) rfl (Ans3.none HL.out HN.out hk)
set_option maxRecDepth 100000 in
set_option maxHeartbeats 4000000 in
theorem sums_small (A : Option Addr) (cap n : Nat) (xs : List Int) (K : Int) (s : ByteArray) (size : Int) (hu : U64 xs) (hl : xs.length = 4 * n) (hsz : s.size ≤ 1000000) (hrb : rightv xs n K = true) (hpb : plainv xs n = true) (he : errW n s.size size = 50) (w : World) (hr : Rd .u64 w A xs) : Calls Tryz.prog 143 #[leafV A n cap K, .string s, .int .i64 size] w (Ans3 (sumsL xs n K s size) (sumsN xs n K s.size size) (sumsE xs n K s.size size) w) := by
  have hm := hr.1
  have ka := kept_alloc (kept_refl w) (.cells #[.slice A n cap, .int .i64 K] 61)
  have hb := blk_new w (.cells #[.slice A n cap, .int .i64 K] 61)
  obtain ⟨hn1, hn2, _, _, _⟩ := rightv_n hrb
  have R := right_c A cap n xs K hl _ (hr.kept ka)
  rw [hrb] at R
  have hB1 : berrv (sqL n (pV xs n)) (tV s) size = 50 := by
    rw [berr_small (c := 65536) (d := 256) (by decide) (by decide) (by decide) (sqL_bd (pV_bd xs n)) (tV_bd s) (by rw [sqL_len]; exact hn2), sqL_len, tV_len]; exact he
  have HB1 := Lib.hid hB1
  clear hB1
  have hE : sumsE xs n K s.size size = 50 := by unfold sumsE; rw [hrb, hpb]; exact he
  have hL : sumsL xs n K s size = [] := by unfold sumsL; rw [hE, if_neg (by decide)]
  have hN : sumsN xs n K s.size size = 0 := by unfold sumsN; rw [hE, if_neg (by decide)]
  rw [hE]
  have HL := Lib.hid hL
  have HN := Lib.hid hN
  clear hE hL hN
  go_enter Tryz.func143, Tryz.ntmps143
  go_wp2_with fail
  refine R.mono ?_
  rintro e w1 ⟨rfl, hk1⟩
  have hk := kept_trans ka hk1
  replace hb := blk_kept hk1 hb
  have c0 : w1.cell? ⟨w.heap.size, 0, none⟩ = some (.slice A n cap) := blk_cell hb 0
  have c1 : w1.cell? ⟨w.heap.size, 1, none⟩ = some (.int .i64 K) := blk_cell hb 1
  clear R ka hk1
  go_wp2_with fail
  have P := plain_c A cap n xs K hu hl _ (hr.kept hk)
  rw [hpb] at P
  refine P.mono ?_
  rintro e w2 ⟨rfl, hk2⟩
  replace hb := blk_kept hk2 hb
  replace hk := kept_trans hk hk2
  clear P hk2 c0 c1
  have c0 : w2.cell? ⟨w.heap.size, 0, none⟩ = some (.slice A n cap) := blk_cell hb 0
  have c1 : w2.cell? ⟨w.heap.size, 1, none⟩ = some (.int .i64 K) := blk_cell hb 1
  go_wp2_with fail
  refine (madeC_c A cap n xs hu hl (by omega) _ (hr.kept hk)).mono ?_
  rintro e w3 ⟨v3, rfl, own3, hk3⟩
  obtain ⟨A3, cp3, rfl, _, _, rd3⟩ := own3.rd
  rw [mk_length]
  replace rd3 : Rd .u64 w3 A3 (pV xs n) := rd3
  replace hb := blk_kept hk3 hb
  replace hk := kept_trans hk hk3
  clear own3 hk3 c0 c1
  have c0 : w3.cell? ⟨w.heap.size, 0, none⟩ = some (.slice A n cap) := blk_cell hb 0
  have c1 : w3.cell? ⟨w.heap.size, 1, none⟩ = some (.int .i64 K) := blk_cell hb 1
  go_wp2_with (refine wpList_bytes rfl _ _ _ _ rfl s rfl rfl rfl rfl (by omega) ?_)
  intro cp4 w4 rd4 hk4
  replace hb := blk_kept hk4 hb
  replace hk := kept_trans hk hk4
  replace rd3 := rd3.kept hk4
  clear hk4 c0 c1
  have c0 : w4.cell? ⟨w.heap.size, 0, none⟩ = some (.slice A n cap) := blk_cell hb 0
  have c1 : w4.cell? ⟨w.heap.size, 1, none⟩ = some (.int .i64 K) := blk_cell hb 1
  go_wp2_with fail
  refine (madeB_c _ _ s.size (bytesL s) (bytesL_bd s) (bytesL_length s) hsz _ rd4).mono ?_
  rintro e w5 ⟨v5, rfl, own5, hk5⟩
  obtain ⟨A5, cp5, rfl, hcp5, _, rd5⟩ := own5.rd
  rw [mk_length] at hcp5 ⊢
  replace rd5 : Rd .u64 w5 A5 (tV s) := rd5
  replace hb := blk_kept hk5 hb
  replace hk := kept_trans hk hk5
  replace rd3 := rd3.kept hk5
  clear own5 hk5 c0 c1 rd4
  have c0 : w5.cell? ⟨w.heap.size, 0, none⟩ = some (.slice A n cap) := blk_cell hb 0
  have c1 : w5.cell? ⟨w.heap.size, 1, none⟩ = some (.int .i64 K) := blk_cell hb 1
  go_wp2_with fail
  refine (power_c2 _).mono ?_
  rintro e w6 ⟨rfl, hg6, hk6⟩
  replace hb := blk_kept hk6 hb
  replace hk := kept_trans hk hk6
  replace rd3 := rd3.kept hk6
  replace rd5 := rd5.kept hk6
  clear hk6 c0 c1
  have c0 : w6.cell? ⟨w.heap.size, 0, none⟩ = some (.slice A n cap) := blk_cell hb 0
  have c1 : w6.cell? ⟨w.heap.size, 1, none⟩ = some (.int .i64 K) := blk_cell hb 1
  go_wp2_with fail
  refine (madeU_c A3 cp3 n _ (pV xs n) (pV_bd xs n) (pV_len xs n) (by omega) _ rd3 hg6).mono ?_
  rintro e w7 ⟨v7, rfl, own7, hk7⟩
  obtain ⟨A7, cp7, rfl, _, _, rd7⟩ := own7.rd
  rw [mk_length]
  replace rd7 : Rd .u64 w7 A7 (sqL n (pV xs n)) := rd7
  replace hb := blk_kept hk7 hb
  replace hk := kept_trans hk hk7
  replace rd3 := rd3.kept hk7
  replace rd5 := rd5.kept hk7
  clear own7 hk7 c0 c1 hg6
  have c0 : w7.cell? ⟨w.heap.size, 0, none⟩ = some (.slice A n cap) := blk_cell hb 0
  have c1 : w7.cell? ⟨w.heap.size, 1, none⟩ = some (.int .i64 K) := blk_cell hb 1
  go_wp2_with fail
  have C := correlate_c5 A7 A5 cp7 cp5 (sqL n (pV xs n)) (tV s) size (u64_of_bd (by decide) (sqL_bd (pV_bd xs n))) (u64_of_bd (by decide) (tV_bd s)) (by rw [sqL_len]; omega) (by rw [tV_len]; omega) (by rw [tV_len]; exact hcp5) _ rd7 rd5
  rw [sqL_len, tV_len, HB1.out] at C
  refine C.mono ?_
  rintro e w8 ⟨A8, cp8, rfl, rd8, hk8, _, _, _⟩
  replace hk := kept_trans hk hk8
  clear C c0 c1 hb rd8 rd3 rd5 rd7
  go_wp2_with fail
  exact bodyPost_ret (v := .tuple #[.slice none 0 0, .int .i64 0, .int .i64 50]) (by simp [results, Tryz.results143, go_sem]) rfl (Ans3.none HL.out HN.out hk)
set_option maxRecDepth 100000 in
set_option maxHeartbeats 8000000 in
theorem sums_good (A : Option Addr) (cap n : Nat) (xs : List Int) (K : Int) (s : ByteArray) (size : Int) (hu : U64 xs) (hl : xs.length = 4 * n) (hsz : s.size ≤ 1000000) (hrb : rightv xs n K = true) (hpb : plainv xs n = true) (he : errW n s.size size = 0) (w : World) (hr : Rd .u64 w A xs) : Calls Tryz.prog 143 #[leafV A n cap K, .string s, .int .i64 size] w (Ans3 (sumsL xs n K s size) (sumsN xs n K s.size size) (sumsE xs n K s.size size) w) := by
  have hm := hr.1
  have ka := kept_alloc (kept_refl w) (.cells #[.slice A n cap, .int .i64 K] 61)
  have hb := blk_new w (.cells #[.slice A n cap, .int .i64 K] 61)
  obtain ⟨hn1, hn2, _, _, _⟩ := rightv_n hrb
  have R := right_c A cap n xs K hl _ (hr.kept ka)
  rw [hrb] at R
  obtain ⟨hB1, hB2, hl1, hl2, hres⟩ := res_law (xs := xs) hn2 hsz he
  have hE : sumsE xs n K s.size size = 0 := by unfold sumsE; rw [hrb, hpb]; exact he
  have hL : sumsL xs n K s size = resL xs n s := by unfold sumsL; rw [hE, if_pos rfl]
  have hN : sumsN xs n K s.size size = 2 * countv n s.size size := by unfold sumsN; rw [hE, if_pos rfl]
  have hcb := countv_bd n s.size size
  have hC1 := bcnt_of hB1 (by rw [tV_len]; omega)
  have hC2 := bcnt_of hB2 (by rw [sqL_len]; omega)
  rw [sqL_len, tV_len] at hC1
  rw [sqL_len, pV_len] at hC2
  have hL0 : lay (resL xs n s) (bval (sqL n (pV xs n)) (tV s) size) (resL xs n s).length 0 = bval (sqL n (pV xs n)) (tV s) size := lay_zero _ _ _ hl1
  have hLA : lay (resL xs n s) (bval (sqL n (pV xs n)) (tV s) size) (resL xs n s).length (resL xs n s).length = resL xs n s := lay_all _ _ _ rfl
  have hLS := fun q => lay_set (resL xs n s) (bval (sqL n (pV xs n)) (tV s) size) (n := (resL xs n s).length) (q := q)
  have hLT := fun q => lay_at (resL xs n s) (bval (sqL n (pV xs n)) (tV s) size) (n := (resL xs n s).length) (q := q)
  have hLL : ∀ q, (lay (resL xs n s) (bval (sqL n (pV xs n)) (tV s) size) (resL xs n s).length q).length = (resL xs n s).length := fun q => mk_length _ _
  have hrl : (resL xs n s).length ≤ 1000000 := by
    unfold resL; split
    · have := of_decide_eq_true ‹_›; rw [mk_length]; omega
    · exact Nat.zero_le _
  rw [hE, hL, hN]
  have W := fun w1 h => weight_c A cap n xs K hu hl (by omega) w1 h
  have HB1 := Lib.hid hB1
  have HB2 := Lib.hid hB2
  have HC1 := Lib.hid hC1
  have HC2 := Lib.hid hC2
  have H1 := Lib.hid hl1
  have H2 := Lib.hid hl2
  have HR := Lib.hid hres
  have HL0 := Lib.hid hL0
  have HLA := Lib.hid hLA
  have HLS := Lib.hid hLS
  have HLT := Lib.hid hLT
  have HLL := Lib.hid hLL
  clear hB1 hB2 hl1 hl2 hres hE hL hN he hC1 hC2 hL0 hLA hLS hLT hLL
  generalize lay (resL xs n s) (bval (sqL n (pV xs n)) (tV s) size) (resL xs n s).length = ly at *
  generalize countv n s.size size = cn at *
  generalize weightv xs n = wt at *
  generalize resL xs n s = rl at *
  go_enter Tryz.func143, Tryz.ntmps143
  go_wp2_with fail
  refine R.mono ?_
  rintro e w1 ⟨rfl, hk1⟩
  have hk := kept_trans ka hk1
  replace hb := blk_kept hk1 hb
  have c0 : w1.cell? ⟨w.heap.size, 0, none⟩ = some (.slice A n cap) := blk_cell hb 0
  have c1 : w1.cell? ⟨w.heap.size, 1, none⟩ = some (.int .i64 K) := blk_cell hb 1
  clear R ka hk1
  go_wp2_with fail
  have P := plain_c A cap n xs K hu hl _ (hr.kept hk)
  rw [hpb] at P
  refine P.mono ?_
  rintro e w2 ⟨rfl, hk2⟩
  replace hb := blk_kept hk2 hb
  replace hk := kept_trans hk hk2
  clear P hk2 c0 c1
  have c0 : w2.cell? ⟨w.heap.size, 0, none⟩ = some (.slice A n cap) := blk_cell hb 0
  have c1 : w2.cell? ⟨w.heap.size, 1, none⟩ = some (.int .i64 K) := blk_cell hb 1
  go_wp2_with fail
  refine (madeC_c A cap n xs hu hl (by omega) _ (hr.kept hk)).mono ?_
  rintro e w3 ⟨v3, rfl, own3, hk3⟩
  obtain ⟨A3, cp3, rfl, _, _, rd3⟩ := own3.rd
  rw [mk_length]
  replace rd3 : Rd .u64 w3 A3 (pV xs n) := rd3
  replace hb := blk_kept hk3 hb
  replace hk := kept_trans hk hk3
  clear own3 hk3 c0 c1
  have c0 : w3.cell? ⟨w.heap.size, 0, none⟩ = some (.slice A n cap) := blk_cell hb 0
  have c1 : w3.cell? ⟨w.heap.size, 1, none⟩ = some (.int .i64 K) := blk_cell hb 1
  go_wp2_with (refine wpList_bytes rfl _ _ _ _ rfl s rfl rfl rfl rfl (by omega) ?_)
  intro cp4 w4 rd4 hk4
  replace hb := blk_kept hk4 hb
  replace hk := kept_trans hk hk4
  replace rd3 := rd3.kept hk4
  clear hk4 c0 c1
  have c0 : w4.cell? ⟨w.heap.size, 0, none⟩ = some (.slice A n cap) := blk_cell hb 0
  have c1 : w4.cell? ⟨w.heap.size, 1, none⟩ = some (.int .i64 K) := blk_cell hb 1
  go_wp2_with fail
  refine (madeB_c _ _ s.size (bytesL s) (bytesL_bd s) (bytesL_length s) hsz _ rd4).mono ?_
  rintro e w5 ⟨v5, rfl, own5, hk5⟩
  obtain ⟨A5, cp5, rfl, hcp5, _, rd5⟩ := own5.rd
  rw [mk_length] at hcp5 ⊢
  replace rd5 : Rd .u64 w5 A5 (tV s) := rd5
  replace hb := blk_kept hk5 hb
  replace hk := kept_trans hk hk5
  replace rd3 := rd3.kept hk5
  clear own5 hk5 c0 c1 rd4
  have c0 : w5.cell? ⟨w.heap.size, 0, none⟩ = some (.slice A n cap) := blk_cell hb 0
  have c1 : w5.cell? ⟨w.heap.size, 1, none⟩ = some (.int .i64 K) := blk_cell hb 1
  go_wp2_with fail
  refine (power_c2 _).mono ?_
  rintro e w6 ⟨rfl, hg6, hk6⟩
  replace hb := blk_kept hk6 hb
  replace hk := kept_trans hk hk6
  replace rd3 := rd3.kept hk6
  replace rd5 := rd5.kept hk6
  clear hk6 c0 c1
  have c0 : w6.cell? ⟨w.heap.size, 0, none⟩ = some (.slice A n cap) := blk_cell hb 0
  have c1 : w6.cell? ⟨w.heap.size, 1, none⟩ = some (.int .i64 K) := blk_cell hb 1
  go_wp2_with fail
  refine (madeU_c A3 cp3 n _ (pV xs n) (pV_bd xs n) (pV_len xs n) (by omega) _ rd3 hg6).mono ?_
  rintro e w7 ⟨v7, rfl, own7, hk7⟩
  obtain ⟨A7, cp7, rfl, _, _, rd7⟩ := own7.rd
  rw [mk_length]
  replace rd7 : Rd .u64 w7 A7 (sqL n (pV xs n)) := rd7
  replace hb := blk_kept hk7 hb
  replace hk := kept_trans hk hk7
  replace rd3 := rd3.kept hk7
  replace rd5 := rd5.kept hk7
  clear own7 hk7 c0 c1 hg6
  have c0 : w7.cell? ⟨w.heap.size, 0, none⟩ = some (.slice A n cap) := blk_cell hb 0
  have c1 : w7.cell? ⟨w.heap.size, 1, none⟩ = some (.int .i64 K) := blk_cell hb 1
  go_wp2_with fail
  have C := correlate_c5 A7 A5 cp7 cp5 (sqL n (pV xs n)) (tV s) size (u64_of_bd (by decide) (sqL_bd (pV_bd xs n))) (u64_of_bd (by decide) (tV_bd s)) (by rw [sqL_len]; omega) (by rw [tV_len]; omega) (by rw [tV_len]; exact hcp5) _ rd7 rd5
  rw [sqL_len, tV_len, HB1.out, HC1.out] at C
  refine C.mono ?_
  rintro e w8 ⟨A8, cp8, rfl, rd8, hk8, hcp8, hcq8, own8⟩
  replace own8 := own8.less (Nat.le_refl w7.heap.size)
  have hbase := hk.size
  generalize w7.heap.size = base at *
  replace hb := blk_kept hk8 hb
  replace hk := kept_trans hk hk8
  replace rd3 := rd3.kept hk8
  replace rd5 := rd5.kept hk8
  rw [H1.out] at hcp8 own8 ⊢
  clear C c0 c1 rd7 hk8 rd8
  have c0 : w8.cell? ⟨w.heap.size, 0, none⟩ = some (.slice A n cap) := blk_cell hb 0
  have c1 : w8.cell? ⟨w.heap.size, 1, none⟩ = some (.int .i64 K) := blk_cell hb 1
  go_wp2_with fail
  refine (power_c2 _).mono ?_
  rintro e w9 ⟨rfl, hg9, hk9⟩
  replace hb := blk_kept hk9 hb
  replace hk := kept_trans hk hk9
  replace rd3 := rd3.kept hk9
  replace rd5 := rd5.kept hk9
  replace own8 := own8.kept hk9
  clear hk9 c0 c1
  have c0 : w9.cell? ⟨w.heap.size, 0, none⟩ = some (.slice A n cap) := blk_cell hb 0
  have c1 : w9.cell? ⟨w.heap.size, 1, none⟩ = some (.int .i64 K) := blk_cell hb 1
  go_wp2_with fail
  refine (madeU_c A5 cp5 s.size _ (tV s) (tV_bd s) (tV_len s) (by omega) _ rd5 hg9).mono ?_
  rintro e w10 ⟨v10, rfl, own10, hk10⟩
  obtain ⟨A10, cp10, rfl, hcp10, _, rd10⟩ := own10.rd
  rw [mk_length] at hcp10 ⊢
  replace rd10 : Rd .u64 w10 A10 (sqL s.size (tV s)) := rd10
  replace hb := blk_kept hk10 hb
  replace hk := kept_trans hk hk10
  replace rd3 := rd3.kept hk10
  replace own8 := own8.kept hk10
  clear own10 hk10 c0 c1 hg9 rd5
  have c0 : w10.cell? ⟨w.heap.size, 0, none⟩ = some (.slice A n cap) := blk_cell hb 0
  have c1 : w10.cell? ⟨w.heap.size, 1, none⟩ = some (.int .i64 K) := blk_cell hb 1
  go_wp2_with fail
  have C := correlate_c5 A3 A10 cp3 cp10 (pV xs n) (sqL s.size (tV s)) size (u64_of_bd (by decide) (pV_bd xs n)) (u64_of_bd (by decide) (sqL_bd (tV_bd s))) (by rw [pV_len]; omega) (by rw [sqL_len]; omega) (by rw [sqL_len]; exact hcp10) _ rd3 rd10
  rw [pV_len, sqL_len, HB2.out, HC2.out] at C
  refine C.mono ?_
  rintro e w11 ⟨A11, cp11, rfl, rd11, hk11, hcp11, hcq11, own11⟩
  have hfar : ∀ g, (Value.slice A8 rl.length cp8).ownBlock = some g → g < w10.heap.size := by
    intro g hg
    unfold Own at own8
    rw [H1.out] at own8
    exact (World.ownsRow.lt own8 g hg).2
  have hb2 := hk.size
  generalize w10.heap.size = base2 at *
  replace hb := blk_kept hk11 hb
  replace hk := kept_trans hk hk11
  replace own8 := own8.kept hk11
  rw [H2.out] at hcp11 own11 ⊢
  clear C c0 c1 rd10 rd3 hk11 rd11
  have c0 : w11.cell? ⟨w.heap.size, 0, none⟩ = some (.slice A n cap) := blk_cell hb 0
  have c1 : w11.cell? ⟨w.heap.size, 1, none⟩ = some (.int .i64 K) := blk_cell hb 1
  go_wp2_with fail
  refine (W _ (hr.kept hk)).mono ?_
  rintro e w12 ⟨rfl, hk12⟩
  replace hb := blk_kept hk12 hb
  replace hk := kept_trans hk hk12
  replace own8 := own8.kept hk12
  replace own11 := own11.kept hk12
  clear W c0 c1 hk12 hb hr hu
  have hlr : rl.length = rl.length := rfl
  generalize hrn : rl.length = L at *
  have HRN := Lib.hid hrn
  clear hrn hlr
  have hown0 : w12.ownsRow base 108 1 (.slice A8 L cp8) L ((ly 0).map (Value.int .u64)) := by
    rw [HL0.out]
    unfold Own at own8
    rwa [H1.out] at own8
  clear own8 HL0
  have hw : wrap64 (cn + cn) = 2 * cn := by unfold wrap64; omega
  have HW := Lib.hid hw
  clear hw hcb
  generalize bval (pV xs n) (sqL s.size (tV s)) size = m2 at *
  generalize bval (sqL n (pV xs n)) (tV s) size = m1 at *
  have hown2 : w12.ownsRow base2 108 1 (.slice A11 L cp11) L (m2.map (Value.int .u64)) := by
    unfold Own at own11
    rwa [H2.out] at own11
  clear own11
  go_wp2_with fail
  go_loopw [63] (fun i wr => ∃ q : Nat, q ≤ L ∧ i = .int .i64 q ∧ wr.ownsRow base 108 1 (.slice A8 L cp8) L ((ly q).map (Value.int .u64)) ∧ wr.ownsRow base2 108 1 (.slice A11 L cp11) L (m2.map (Value.int .u64)) ∧ Kept w wr) (fun i _ => L - (intOf i).toNat)
  case atStart => exact ⟨0, Nat.zero_le _, rfl, hown0, hown2, hk⟩
  case round =>
    clear hown0 hown2 hk
    obtain ⟨q, hq, rfl, hown, hown2, hk⟩ := hrel
    by_cases hlt : q < L
    · obtain ⟨g, rfl⟩ : ∃ g, A8 = some ⟨g, 0, none⟩ := by
        have hO : Own .u64 108 base wr (.slice A8 L cp8) (ly q) := by
          unfold Own
          rw [HLL.out]; exact hown
        obtain ⟨g, c, e⟩ := hO.pos (by rw [HLL.out]; omega)
        simp only [Value.slice.injEq] at e
        exact ⟨g, e.1⟩
      obtain ⟨g2, rfl⟩ : ∃ g, A11 = some ⟨g, 0, none⟩ := by
        have hO : Own .u64 108 base2 wr (.slice A11 L cp11) m2 := by
          unfold Own
          rw [H2.out]; exact hown2
        obtain ⟨g, c, e⟩ := hO.pos (by rw [H2.out]; omega)
        simp only [Value.slice.injEq] at e
        exact ⟨g, e.1⟩
      have hlt1 := hfar g rfl
      have hlt2 := (World.ownsRow.lt hown2 g2 rfl).1
      have hgg : g2 ≠ g := by omega
      have c0 := World.ownsRow.cellAt hown q (by omega)
      rw [List.getElem?_map, List.getElem?_eq_getElem (by rw [HLL.out]; omega), Option.map_some, ← nth_lt (by rw [HLL.out]; omega), HLT.out q hlt] at c0
      have c1 := World.ownsRow.cellAt hown2 q (by omega)
      rw [List.getElem?_map, List.getElem?_eq_getElem (by rw [H2.out]; omega), Option.map_some, ← nth_lt (by rw [H2.out]; omega)] at c1
      have hr1 := HR.out q hlt
      have hset := HLS.out q hlt
      have HS := Lib.hid hset
      have HR1 := Lib.hid hr1
      clear hr1 hset HR HLS HLT HLA HW HRN hlt1 hlt2
      have hnl : (ly q).length = L := HLL.out q
      clear HLL
      generalize nth m1 q = x at *
      generalize nth m2 q = y at *
      generalize nth rl q = r at *
      have ea : (⟨g, 0, none⟩ : Addr).add q = ⟨g, q, none⟩ := by unfold Addr.add; split <;> simp_all
      have ea2 : (⟨g2, 0, none⟩ : Addr).add q = ⟨g2, q, none⟩ := by unfold Addr.add; split <;> simp_all
      have HNL := Lib.hid hnl
      clear hnl
      go_wp2_with fail
      have ks_c0 := fun s => kw_cell s c0
      have ks_c1 := fun s => kw_cell s c1
      refine wp_region_tail 14 (by kernel_rfl) (by kernel_rfl) ?_
      simp only [List.take_succ_cons, List.take_zero, List.drop_succ_cons, List.drop_zero]
      repeat (first | go_big_quiet_skip | (go_big_quiet_want; go_big_quiet_op; first | go_big_quiet_on | (apply Exists.intro; refine ⟨fun s => ?_, ?_⟩; (first | fail); go_big_quiet_on)))
      refine wpQuiet_nil ?_
      rintro w13 ⟨⟨_, hk13⟩, rfl⟩
      clear ks_c0 ks_c1 c0 c1
      have hownA := rowKept hown hk13
      have hownB := rowKept hown2 hk13
      have hkA := kept_trans hk hk13
      have d0 := World.ownsRow.cellAt hownA q (by omega)
      rw [List.getElem?_map, List.getElem?_eq_getElem (by rw [HNL.out]; omega), Option.map_some] at d0
      have f0 := World.ownsRow.frozenAt hownA q
      have S := World.ownsRow.stored hownA q (.int .u64 r)
      rw [← List.map_set, HS.out] at S
      rw [← HR1.out] at S
      unfold resW at S
      generalize (ly q)[q]'(by rw [HNL.out]; omega) = old at *
      clear hown hown2 hk hk13
      go_wp2_with fail
      exact ⟨⟨q + 1, by omega, by go_num, S.1, World.ownsRow.kept hownB S.2 (.inr (by simp [Value.ownBlock, hgg])), kept_grown hkA hownA (by omega) S.2⟩, by simp [intOf]; omega⟩
    · obtain rfl : q = L := by omega
      rw [HLA.out] at hown
      have hO : Own .u64 108 base wr (.slice A8 q cp8) rl := by
        unfold Own
        rw [HRN.out]; exact hown
      have hrd := hO.rd
      obtain ⟨B, cB, eB, _, _, rdB⟩ := hrd
      simp only [Value.slice.injEq] at eB
      obtain ⟨rfl, _, rfl⟩ := eB
      clear hown hown2 HLS HLT HLA HLL HR
      go_wp2_with fail
      refine bodyPost_ret (v := .tuple #[.slice A8 q cp8, .int .i64 (2 * cn), .int .i64 0]) (by simp [results, Tryz.results143, go_sem]; try exact HW.out) rfl ?_
      refine ⟨A8, cp8, by rw [HRN.out], rdB, hk, by rw [HRN.out]; exact hcp8, hcq8, ?_⟩
      rw [HRN.out]
      exact hO.less hbase
set_option maxHeartbeats 1000000 in
theorem wsums_c (A : Option Addr) (cap n : Nat) (xs : List Int) (K : Int) (s : ByteArray) (size : Int) (hu : U64 xs) (hl : xs.length = 4 * n) (hsz : s.size ≤ 1000000) (w : World) (hr : Rd .u64 w A xs) : Calls Tryz.prog 143 #[leafV A n cap K, .string s, .int .i64 size] w (Ans3 (sumsL xs n K s size) (sumsN xs n K s.size size) (sumsE xs n K s.size size) w) := by
  cases hrb : rightv xs n K
  · exact sums_wrong A cap n xs K s size hu hl hsz hrb w hr
  · cases hpb : plainv xs n
    · exact sums_rough A cap n xs K s size hu hl hsz hrb hpb w hr
    · by_cases he : errW n s.size size = 0
      · exact sums_good A cap n xs K s size hu hl hsz hrb hpb he w hr
      · refine sums_small A cap n xs K s size hu hl hsz hrb hpb ?_ w hr
        unfold errW at he ⊢
        split
        · rename_i h
          rw [if_pos h] at he
          split
          · rename_i h2; rw [if_pos h2] at he; exact absurd rfl he
          · rfl
        · rename_i h
          rw [if_neg h] at he; exact absurd rfl he
end Go.Proofs.YtdejablhpljdfaaGreat
namespace Go.Proofs.YtdejablhpljdfaaGreat
open Go.RowKit BG
attribute [local go_sem ↓] Go.wp_at_zero Go.wp_at_succ
set_option linter.unusedVariables false
theorem resL_eq {xs : List Int} {n : Nat} {s : ByteArray} (h : 1 ≤ n) : resL xs n s = mk (s.size + 1 - n) (sumW xs n s) := by
  unfold resL slb
  by_cases hs : n ≤ s.size
  · rw [if_pos (decide_eq_true ⟨by omega, by omega⟩), show s.size - n + 1 = s.size + 1 - n by omega]
  · rw [if_neg (by simp; omega), show s.size + 1 - n = 0 by omega]; rfl
end Go.Proofs.YtdejablhpljdfaaGreat
namespace Go.Proofs.YtdejablhpljdfaaGreat
open Go.RowKit BG
attribute [local go_sem ↓] Go.wp_at_zero Go.wp_at_succ
set_option linter.unusedVariables false
def zerT (ys : List Int) (q : Nat) : List Int := ((List.range q).filter fun i => decide (nth ys i = 0)).map fun i : Nat => (i : Int)
theorem zerT_yes {ys : List Int} {q : Nat} (h : nth ys q = 0) : zerT ys (q + 1) = zerT ys q ++ [(q : Int)] := by
  unfold zerT
  rw [List.range_succ, List.filter_append, List.map_append]
  simp [h]
theorem zerT_no {ys : List Int} {q : Nat} (h : ¬ nth ys q = 0) : zerT ys (q + 1) = zerT ys q := by
  unfold zerT
  rw [List.range_succ, List.filter_append, List.map_append]
  simp [h]
theorem zerT_len (ys : List Int) (q : Nat) : (zerT ys q).length ≤ q := by
  unfold zerT
  rw [List.length_map]
  have := List.length_filter_le (fun i => decide (nth ys i = 0)) (List.range q)
  rwa [List.length_range] at this
def findE (xs : List Int) (n : Nat) (K : Int) (m : Nat) (size : Int) : Int := if K = 0 then sumsE xs n K m size else 170
def findN (xs : List Int) (n : Nat) (K : Int) (m : Nat) (size : Int) : Int := if K = 0 then sumsN xs n K m size else 0
def findL (xs : List Int) (n : Nat) (K : Int) (s : ByteArray) (size : Int) : List Int := if K = 0 then zerT (sumsL xs n K s size) (sumsL xs n K s size).length else []
theorem sumsL_len (xs : List Int) (n : Nat) (K : Int) (s : ByteArray) (size : Int) : (sumsL xs n K s size).length ≤ s.size + 1 := by
  unfold sumsL resL
  split
  · split
    · rw [mk_length]; omega
    · exact Nat.zero_le _
  · exact Nat.zero_le _
def AnsI (l : List Int) (c er : Int) (w : World) (e : Ending) (w' : World) : Prop :=
  ∃ A cap, e = .returned (.tuple #[.slice A l.length cap, .int .i64 c, .int .i64 er]) ∧ Rd .i64 w' A l ∧ Kept w w'
end Go.Proofs.YtdejablhpljdfaaGreat
namespace Go.Proofs.YtdejablhpljdfaaGreat
open Go.RowKit BG
attribute [local go_sem ↓] Go.wp_at_zero Go.wp_at_succ run_max_at run_min_at
set_option linter.unusedVariables false
def RdF (b : Nat) (k : IntKind) (w : World) (A : Option Addr) (xs : List Int) : Prop := Rd k w A xs ∧ ∀ ad, A = some ad → b ≤ ad.block
theorem RdF.less {b b' : Nat} {k : IntKind} {w : World} {A : Option Addr} {xs : List Int} (h : RdF b k w A xs) (hb : b' ≤ b) : RdF b' k w A xs := ⟨h.1, fun ad e => Nat.le_trans hb (h.2 ad e)⟩
theorem RdF.kept {b : Nat} {k : IntKind} {w w1 : World} {A : Option Addr} {xs : List Int} (h : RdF b k w A xs) (hk : Kept w w1) : RdF b k w1 A xs := ⟨h.1.kept hk, h.2⟩
theorem RdF.nil (b : Nat) (k : IntKind) (w : World) : RdF b k w none [] := ⟨Rd.nil _ _ _, fun _ h => by cases h⟩
theorem Own.rdF {k : IntKind} {e : TypeId} {base : Nat} {w : World} {v : Value} {xs : List Int} (h : Own k e base w v xs) : ∃ A c, v = .slice A xs.length c ∧ xs.length ≤ c ∧ c ≤ 9223372036854775807 ∧ RdF base k w A xs := by
  have ho : World.ownsRow _ _ _ _ _ _ _ := h
  obtain ⟨A, c, rfl, h1, h2, h3⟩ := h.rd
  exact ⟨A, c, rfl, h1, h2, h3, fun ad e => (World.ownsRow.lt ho ad.block (by rw [e]; rfl)).1⟩
def AnsJ (l : List Int) (c er : Int) (w : World) (e : Ending) (w' : World) : Prop :=
  ∃ A cap, e = .returned (.tuple #[.slice A l.length cap, .int .i64 c, .int .i64 er]) ∧ RdF w.heap.size .i64 w' A l ∧ Kept w w'
set_option maxRecDepth 100000 in
set_option maxHeartbeats 8000000 in
theorem wfind_c (A : Option Addr) (cap n : Nat) (xs : List Int) (K : Int) (s : ByteArray) (size : Int) (hu : U64 xs) (hl : xs.length = 4 * n) (hn0 : n ≤ 1000000) (hsz : s.size ≤ 900000) (w : World) (hr : Rd .u64 w A xs) : Calls Tryz.prog 84 #[leafV A n cap K, .string s, .int .i64 size] w (AnsJ (findL xs n K s size) (findN xs n K s.size size) (findE xs n K s.size size) w) := by
  have hm := hr.1
  have ka := kept_alloc (kept_refl w) (.cells #[.slice A n cap, .int .i64 K] 61)
  have hb := blk_new w (.cells #[.slice A n cap, .int .i64 K] 61)
  unfold findL findN findE
  by_cases hK : K = 0
  · rw [if_pos hK, if_pos hK, if_pos hK]
    obtain ⟨i1, hif1, hy0, hy1, hy2⟩ := info_parts info_i64c
    have S := wsums_c A cap n xs K s size hu hl (by omega) _ (hr.kept ka)
    have hlen := sumsL_len xs n K s size
    generalize sumsL xs n K s size = sl at *
    generalize sumsN xs n K s.size size = sn at *
    generalize sumsE xs n K s.size size = se at *
    have hyes := fun q => zerT_yes (ys := sl) (q := q)
    have hno := fun q => zerT_no (ys := sl) (q := q)
    have hle := zerT_len sl
    have h0 : zerT sl 0 = [] := rfl
    have HYES := Lib.hid hyes
    have HNO := Lib.hid hno
    have H0 := Lib.hid h0
    clear hyes hno h0
    generalize zerT sl = zt at *
    subst hK
    go_enter Tryz.func84, Tryz.ntmps84
    go_wp2_with fail
    refine S.mono ?_
    rintro e w1 ⟨B, cB, rfl, rd, hk1, _, _, _⟩
    have hk := kept_trans ka hk1
    clear S hb hk1
    generalize hn : sl.length = L at *
    have HN := Lib.hid hn
    clear hn
    go_wp2_with fail
    go_loopw [12, 28] (fun v iv wr => ∃ i : Nat, i ≤ L ∧ iv = .int .i64 i ∧ Own .i64 3 w1.heap.size wr v (zt i) ∧ Kept w1 wr ∧ Kept w wr) (fun _ iv _ => L - (intOf iv).toNat)
    case atStart => exact ⟨0, Nat.zero_le _, rfl, by rw [H0.out]; exact Own.nil _ _ _ _, kept_refl _, hk⟩
    case round =>
      obtain ⟨i, hi, rfl, hown, hk1r, hkw⟩ := hrel
      by_cases hlt : i < L
      · obtain ⟨ad, rfl, c0⟩ := (rd.kept hk1r).at_ (j := i) (by rw [HN.out]; exact hlt)
        have hyes := HYES.out i
        have hno := HNO.out i
        have hle := hle i
        have hbase := hk1r.size
        have HY := Lib.hid hyes
        have HO := Lib.hid hno
        clear hyes hno HYES HNO H0
        generalize nth sl i = y at *
        by_cases hy : y = 0
        · have HN1 := Lib.hid (HY.out hy)
          subst hy
          have hown2 : World.ownsRow _ _ _ _ _ _ _ := hown
          clear HY HO
          go_wp2_with (at_builtin; refine wpList_append_own _ rfl _ _ 24 rfl w1.heap.size 3 i1 (.int .i64 0) 1 8 Tryz.underlying24 hif1 hy0 hy1 hy2 rfl (by decide) _ _ _ rfl (hown2.alloc _) ⟨wr.heap.size, 0, none⟩ 1 1 [.int .i64 (i : Nat)] rfl rfl ?c1 ?c2 ?c3 ?c4 ?c5 ?_)
          case c1 =>
            intro q u hq
            match q, hq with
            | 0, hq => simp at hq; subst hq; simp [Addr.add]
          case c2 => intro u hu; simp at hu; subst hu; rfl
          case c3 => unfold maxLen; omega
          case c4 => omega
          case c5 => simp; omega
          · intro v' w5 hown' hgrow _
            have o5 := own_snoc hown'
            rw [← HN1.out] at o5
            have K5 := kept_grown (kept_alloc hkw _) (hown2.alloc _) hk.size hgrow
            have K6 := kept_grown (kept_alloc hk1r _) (hown2.alloc _) (Nat.le_refl _) hgrow
            clear hown' hgrow hown2 hown c0
            go_wp2_with fail
            exact ⟨⟨i + 1, by omega, by go_num, o5, K6, K5⟩, by simp [intOf]; omega⟩
        · have hyd : (y == 0) = false := by rw [beq_eq_false_iff_ne]; exact hy
          have HN1 := Lib.hid (HO.out hy)
          clear HY HO
          go_wp2_with fail
          exact ⟨⟨i + 1, by omega, by go_num, by rw [HN1.out]; exact hown, hk1r, hkw⟩, by simp [intOf]; omega⟩
      · obtain rfl : i = L := by omega
        obtain ⟨D, cD, rfl, _, _, rdD⟩ := hown.rdF
        have hks1 := hk.size
        clear HYES HNO H0 hown
        go_wp2_with fail
        exact bodyPost_ret (v := .tuple #[.slice D (zt i).length cD, .int .i64 sn, .int .i64 se]) (by simp [results, Tryz.results84, go_sem]) rfl ⟨D, cD, rfl, rdD.less hks1, hkw⟩
  · rw [if_neg hK, if_neg hK, if_neg hK]
    have hkd : (K == 0) = false := by rw [beq_eq_false_iff_ne]; exact hK
    have hkd2 : (K != 0) = true := by rw [bne_iff_ne]; exact hK
    go_enter Tryz.func84, Tryz.ntmps84
    go_wp2_with fail
    exact bodyPost_ret (v := .tuple #[.slice none 0 0, .int .i64 0, .int .i64 170]) (by simp [results, Tryz.results84, go_sem]) rfl ⟨none, 0, rfl, RdF.nil _ _ _, ka⟩
end Go.Proofs.YtdejablhpljdfaaGreat
