/-
  Layer 10 (wild): the sums.
-/
import Derived.Test.YtobailigphmopaaWildP
import Derived.Test.YtobailigphmopaaWBlk9
import Derived.Test.YtobailigphmopaaWLeafJ
namespace Go.Proofs.Ytobailigphmopaa
open Go.RowKit BG
attribute [local go_sem ↓] Go.wp_at_zero Go.wp_at_succ
set_option linter.unusedVariables false

/-- The row while it is laid over. -/
def lay (a b : List Int) (n q : Nat) : List Int := mk n fun i => if i < q then nth a i else nth b i
theorem mk_of_nth (b : List Int) : mk b.length (nth b) = b := List.ext_getElem? fun j => by
  by_cases h : j < b.length
  · rw [List.getElem?_eq_getElem (by rw [mk_length]; exact h), ← nth_lt (by rw [mk_length]; exact h), nth_mk h, nth_lt h, ← List.getElem?_eq_getElem h]
  · rw [List.getElem?_eq_none (by rw [mk_length]; omega), List.getElem?_eq_none (by omega)]
theorem lay_zero (a b : List Int) (n : Nat) (h : b.length = n) : lay a b n 0 = b := by
  subst h
  exact mk_of_nth b
theorem lay_all (a b : List Int) (n : Nat) (h : a.length = n) : lay a b n n = a := by
  subst h
  unfold lay
  rw [mk_congr (g := nth a) fun t ht => if_pos ht]
  exact mk_of_nth a
theorem lay_set (a b : List Int) {n q : Nat} (h : q < n) : (lay a b n q).set q (nth a q) = lay a b n (q + 1) := by
  unfold lay
  rw [mk_set _ h]
  refine mk_congr fun t _ => ?_
  by_cases h1 : t = q
  · rw [if_pos h1, if_pos (by omega), h1]
  · rw [if_neg h1]
    by_cases h2 : t < q
    · rw [if_pos h2, if_pos (by omega)]
    · rw [if_neg h2, if_neg (by omega)]
theorem lay_at (a b : List Int) {n q : Nat} (h : q < n) : nth (lay a b n q) q = nth b q := by
  unfold lay
  rw [nth_mk h, if_neg (Nat.lt_irrefl q)]
set_option maxRecDepth 100000 in
set_option maxHeartbeats 4000000 in
theorem sums_wrong (A : Option Addr) (cap n : Nat) (xs : List Int) (K : Int) (s : ByteArray) (size : Int) (hu : U64 xs) (hl : xs.length = 4 * n) (hsz : s.size ≤ 1000000) (hrb : rightv xs n K = false) (w : World) (hr : Rd .u64 w A xs) : Calls Try.prog 15 #[leafV A n cap K, .string s, .int .i64 size] w (Ans3 (sumsL xs n K s size) (sumsN xs n K s.size size) (sumsE xs n K s.size size) w) := by
  have hm := hr.1
  have ka := kept_alloc (kept_refl w) (.cells #[.slice A n cap, .int .i64 K] 27)
  have hb := blk_new w (.cells #[.slice A n cap, .int .i64 K] 27)
  have R := right_c A cap n xs K hl _ (hr.kept ka)
  rw [hrb] at R
  have hE : sumsE xs n K s.size size = 170 := by unfold sumsE; rw [hrb]; rfl
  have hL : sumsL xs n K s size = [] := by unfold sumsL; rw [hE, if_neg (by decide)]
  have hN : sumsN xs n K s.size size = 0 := by unfold sumsN; rw [hE, if_neg (by decide)]
  rw [hE]
  have HL := Lib.hid hL
  have HN := Lib.hid hN
  clear hE hL hN
  go_enter Try.func15, Try.ntmps15
  go_wp2_with fail
  refine R.mono ?_
  rintro e w1 ⟨rfl, hk1⟩
  have hk := kept_trans ka hk1
  replace hb := blk_kept hk1 hb
  have c0 : w1.cell? ⟨w.heap.size, 0, none⟩ = some (.slice A n cap) := blk_cell hb 0
  have c1 : w1.cell? ⟨w.heap.size, 1, none⟩ = some (.int .i64 K) := blk_cell hb 1
  clear R ka hk1
  go_wp2_with fail
  exact bodyPost_ret (v := .tuple #[.slice none 0 0, .int .i64 0, .int .i64 170]) (by simp [results, Try.results15, go_sem]) rfl (Ans3.none HL.out HN.out hk)
set_option maxRecDepth 100000 in
set_option maxHeartbeats 4000000 in
theorem sums_rough (A : Option Addr) (cap n : Nat) (xs : List Int) (K : Int) (s : ByteArray) (size : Int) (hu : U64 xs) (hl : xs.length = 4 * n) (hsz : s.size ≤ 1000000) (hrb : rightv xs n K = true) (hpb : plainv xs n = false) (w : World) (hr : Rd .u64 w A xs) : Calls Try.prog 15 #[leafV A n cap K, .string s, .int .i64 size] w (Ans3 (sumsL xs n K s size) (sumsN xs n K s.size size) (sumsE xs n K s.size size) w) := by
  have hm := hr.1
  have ka := kept_alloc (kept_refl w) (.cells #[.slice A n cap, .int .i64 K] 27)
  have hb := blk_new w (.cells #[.slice A n cap, .int .i64 K] 27)
  have R := right_c A cap n xs K hl _ (hr.kept ka)
  rw [hrb] at R
  have hE : sumsE xs n K s.size size = 170 := by unfold sumsE; rw [hrb, hpb]; rfl
  have hL : sumsL xs n K s size = [] := by unfold sumsL; rw [hE, if_neg (by decide)]
  have hN : sumsN xs n K s.size size = 0 := by unfold sumsN; rw [hE, if_neg (by decide)]
  rw [hE]
  have HL := Lib.hid hL
  have HN := Lib.hid hN
  clear hE hL hN
  go_enter Try.func15, Try.ntmps15
  go_wp2_with fail
  refine R.mono ?_
  rintro e w1 ⟨rfl, hk1⟩
  have hk := kept_trans ka hk1
  replace hb := blk_kept hk1 hb
  have c0 : w1.cell? ⟨w.heap.size, 0, none⟩ = some (.slice A n cap) := blk_cell hb 0
  have c1 : w1.cell? ⟨w.heap.size, 1, none⟩ = some (.int .i64 K) := blk_cell hb 1
  clear R ka hk1
  go_wp2_with fail
  have P := plain_c A cap n xs K hu hl _ (hr.kept hk)
  rw [hpb] at P
  refine P.mono ?_
  rintro e w2 ⟨rfl, hk2⟩
  replace hb := blk_kept hk2 hb
  replace hk := kept_trans hk hk2
  clear P hk2 c0 c1
  have c0 : w2.cell? ⟨w.heap.size, 0, none⟩ = some (.slice A n cap) := blk_cell hb 0
  have c1 : w2.cell? ⟨w.heap.size, 1, none⟩ = some (.int .i64 K) := blk_cell hb 1
  go_wp2_with fail
  exact bodyPost_ret (v := .tuple #[.slice none 0 0, .int .i64 0, .int .i64 170]) (by simp [results, Try.results15, go_sem]) rfl (Ans3.none HL.out HN.out hk)
set_option maxRecDepth 100000 in
set_option maxHeartbeats 4000000 in
theorem sums_small (A : Option Addr) (cap n : Nat) (xs : List Int) (K : Int) (s : ByteArray) (size : Int) (hu : U64 xs) (hl : xs.length = 4 * n) (hsz : s.size ≤ 1000000) (hrb : rightv xs n K = true) (hpb : plainv xs n = true) (he : errW n s.size size = 50) (w : World) (hr : Rd .u64 w A xs) : Calls Try.prog 15 #[leafV A n cap K, .string s, .int .i64 size] w (Ans3 (sumsL xs n K s size) (sumsN xs n K s.size size) (sumsE xs n K s.size size) w) := by
  have hm := hr.1
  have ka := kept_alloc (kept_refl w) (.cells #[.slice A n cap, .int .i64 K] 27)
  have hb := blk_new w (.cells #[.slice A n cap, .int .i64 K] 27)
  obtain ⟨hn1, hn2, _, _, _⟩ := rightv_n hrb
  have R := right_c A cap n xs K hl _ (hr.kept ka)
  rw [hrb] at R
  have hB1 : berrv (sqL n (pV xs n)) (tV s) size = 50 := by
    rw [berr_small (c := 65536) (d := 256) (by decide) (by decide) (by decide) (sqL_bd (pV_bd xs n)) (tV_bd s) (by rw [sqL_len]; exact hn2), sqL_len, tV_len]; exact he
  have HB1 := Lib.hid hB1
  clear hB1
  have hE : sumsE xs n K s.size size = 50 := by unfold sumsE; rw [hrb, hpb]; exact he
  have hL : sumsL xs n K s size = [] := by unfold sumsL; rw [hE, if_neg (by decide)]
  have hN : sumsN xs n K s.size size = 0 := by unfold sumsN; rw [hE, if_neg (by decide)]
  rw [hE]
  have HL := Lib.hid hL
  have HN := Lib.hid hN
  clear hE hL hN
  go_enter Try.func15, Try.ntmps15
  go_wp2_with fail
  refine R.mono ?_
  rintro e w1 ⟨rfl, hk1⟩
  have hk := kept_trans ka hk1
  replace hb := blk_kept hk1 hb
  have c0 : w1.cell? ⟨w.heap.size, 0, none⟩ = some (.slice A n cap) := blk_cell hb 0
  have c1 : w1.cell? ⟨w.heap.size, 1, none⟩ = some (.int .i64 K) := blk_cell hb 1
  clear R ka hk1
  go_wp2_with fail
  have P := plain_c A cap n xs K hu hl _ (hr.kept hk)
  rw [hpb] at P
  refine P.mono ?_
  rintro e w2 ⟨rfl, hk2⟩
  replace hb := blk_kept hk2 hb
  replace hk := kept_trans hk hk2
  clear P hk2 c0 c1
  have c0 : w2.cell? ⟨w.heap.size, 0, none⟩ = some (.slice A n cap) := blk_cell hb 0
  have c1 : w2.cell? ⟨w.heap.size, 1, none⟩ = some (.int .i64 K) := blk_cell hb 1
  go_wp2_with fail
  refine (madeC_c A cap n xs hu hl (by omega) _ (hr.kept hk)).mono ?_
  rintro e w3 ⟨v3, rfl, own3, hk3⟩
  obtain ⟨A3, cp3, rfl, _, _, rd3⟩ := own3.rd
  rw [mk_length]
  replace rd3 : Rd .u64 w3 A3 (pV xs n) := rd3
  replace hb := blk_kept hk3 hb
  replace hk := kept_trans hk hk3
  clear own3 hk3 c0 c1
  have c0 : w3.cell? ⟨w.heap.size, 0, none⟩ = some (.slice A n cap) := blk_cell hb 0
  have c1 : w3.cell? ⟨w.heap.size, 1, none⟩ = some (.int .i64 K) := blk_cell hb 1
  go_wp2_with (refine wpList_bytes rfl _ _ _ _ rfl s rfl rfl rfl rfl (by omega) ?_)
  intro cp4 w4 rd4 hk4
  replace hb := blk_kept hk4 hb
  replace hk := kept_trans hk hk4
  replace rd3 := rd3.kept hk4
  clear hk4 c0 c1
  have c0 : w4.cell? ⟨w.heap.size, 0, none⟩ = some (.slice A n cap) := blk_cell hb 0
  have c1 : w4.cell? ⟨w.heap.size, 1, none⟩ = some (.int .i64 K) := blk_cell hb 1
  go_wp2_with fail
  refine (madeB_c _ _ s.size (bytesL s) (bytesL_bd s) (bytesL_length s) hsz _ rd4).mono ?_
  rintro e w5 ⟨v5, rfl, own5, hk5⟩
  obtain ⟨A5, cp5, rfl, hcp5, _, rd5⟩ := own5.rd
  rw [mk_length] at hcp5 ⊢
  replace rd5 : Rd .u64 w5 A5 (tV s) := rd5
  replace hb := blk_kept hk5 hb
  replace hk := kept_trans hk hk5
  replace rd3 := rd3.kept hk5
  clear own5 hk5 c0 c1 rd4
  have c0 : w5.cell? ⟨w.heap.size, 0, none⟩ = some (.slice A n cap) := blk_cell hb 0
  have c1 : w5.cell? ⟨w.heap.size, 1, none⟩ = some (.int .i64 K) := blk_cell hb 1
  go_wp2_with fail
  refine (power_c2 _).mono ?_
  rintro e w6 ⟨rfl, hg6, hk6⟩
  replace hb := blk_kept hk6 hb
  replace hk := kept_trans hk hk6
  replace rd3 := rd3.kept hk6
  replace rd5 := rd5.kept hk6
  clear hk6 c0 c1
  have c0 : w6.cell? ⟨w.heap.size, 0, none⟩ = some (.slice A n cap) := blk_cell hb 0
  have c1 : w6.cell? ⟨w.heap.size, 1, none⟩ = some (.int .i64 K) := blk_cell hb 1
  go_wp2_with fail
  refine (madeU_c A3 cp3 n _ (pV xs n) (pV_bd xs n) (pV_len xs n) (by omega) _ rd3 hg6).mono ?_
  rintro e w7 ⟨v7, rfl, own7, hk7⟩
  obtain ⟨A7, cp7, rfl, _, _, rd7⟩ := own7.rd
  rw [mk_length]
  replace rd7 : Rd .u64 w7 A7 (sqL n (pV xs n)) := rd7
  replace hb := blk_kept hk7 hb
  replace hk := kept_trans hk hk7
  replace rd3 := rd3.kept hk7
  replace rd5 := rd5.kept hk7
  clear own7 hk7 c0 c1 hg6
  have c0 : w7.cell? ⟨w.heap.size, 0, none⟩ = some (.slice A n cap) := blk_cell hb 0
  have c1 : w7.cell? ⟨w.heap.size, 1, none⟩ = some (.int .i64 K) := blk_cell hb 1
  go_wp2_with fail
  have C := correlate_c5 A7 A5 cp7 cp5 (sqL n (pV xs n)) (tV s) size (u64_of_bd (by decide) (sqL_bd (pV_bd xs n))) (u64_of_bd (by decide) (tV_bd s)) (by rw [sqL_len]; omega) (by rw [tV_len]; omega) (by rw [tV_len]; exact hcp5) _ rd7 rd5
  rw [sqL_len, tV_len, HB1.out] at C
  refine C.mono ?_
  rintro e w8 ⟨A8, cp8, rfl, rd8, hk8, _, _, _⟩
  replace hk := kept_trans hk hk8
  clear C c0 c1 hb rd8 rd3 rd5 rd7
  go_wp2_with fail
  exact bodyPost_ret (v := .tuple #[.slice none 0 0, .int .i64 0, .int .i64 50]) (by simp [results, Try.results15, go_sem]) rfl (Ans3.none HL.out HN.out hk)
set_option maxRecDepth 100000 in
set_option maxHeartbeats 8000000 in
theorem sums_good (A : Option Addr) (cap n : Nat) (xs : List Int) (K : Int) (s : ByteArray) (size : Int) (hu : U64 xs) (hl : xs.length = 4 * n) (hsz : s.size ≤ 1000000) (hrb : rightv xs n K = true) (hpb : plainv xs n = true) (he : errW n s.size size = 0) (w : World) (hr : Rd .u64 w A xs) : Calls Try.prog 15 #[leafV A n cap K, .string s, .int .i64 size] w (Ans3 (sumsL xs n K s size) (sumsN xs n K s.size size) (sumsE xs n K s.size size) w) := by
  have hm := hr.1
  have ka := kept_alloc (kept_refl w) (.cells #[.slice A n cap, .int .i64 K] 27)
  have hb := blk_new w (.cells #[.slice A n cap, .int .i64 K] 27)
  obtain ⟨hn1, hn2, _, _, _⟩ := rightv_n hrb
  have R := right_c A cap n xs K hl _ (hr.kept ka)
  rw [hrb] at R
  obtain ⟨hB1, hB2, hl1, hl2, hres⟩ := res_law (xs := xs) hn2 hsz he
  have hE : sumsE xs n K s.size size = 0 := by unfold sumsE; rw [hrb, hpb]; exact he
  have hL : sumsL xs n K s size = resL xs n s := by unfold sumsL; rw [hE, if_pos rfl]
  have hN : sumsN xs n K s.size size = 2 * countv n s.size size := by unfold sumsN; rw [hE, if_pos rfl]
  have hcb := countv_bd n s.size size
  have hC1 := bcnt_of hB1 (by rw [tV_len]; omega)
  have hC2 := bcnt_of hB2 (by rw [sqL_len]; omega)
  rw [sqL_len, tV_len] at hC1
  rw [sqL_len, pV_len] at hC2
  have hL0 : lay (resL xs n s) (bval (sqL n (pV xs n)) (tV s) size) (resL xs n s).length 0 = bval (sqL n (pV xs n)) (tV s) size := lay_zero _ _ _ hl1
  have hLA : lay (resL xs n s) (bval (sqL n (pV xs n)) (tV s) size) (resL xs n s).length (resL xs n s).length = resL xs n s := lay_all _ _ _ rfl
  have hLS := fun q => lay_set (resL xs n s) (bval (sqL n (pV xs n)) (tV s) size) (n := (resL xs n s).length) (q := q)
  have hLT := fun q => lay_at (resL xs n s) (bval (sqL n (pV xs n)) (tV s) size) (n := (resL xs n s).length) (q := q)
  have hLL : ∀ q, (lay (resL xs n s) (bval (sqL n (pV xs n)) (tV s) size) (resL xs n s).length q).length = (resL xs n s).length := fun q => mk_length _ _
  have hrl : (resL xs n s).length ≤ 1000000 := by
    unfold resL; split
    · have := of_decide_eq_true ‹_›; rw [mk_length]; omega
    · exact Nat.zero_le _
  rw [hE, hL, hN]
  have W := fun w1 h => weight_c A cap n xs K hu hl (by omega) w1 h
  have HB1 := Lib.hid hB1
  have HB2 := Lib.hid hB2
  have HC1 := Lib.hid hC1
  have HC2 := Lib.hid hC2
  have H1 := Lib.hid hl1
  have H2 := Lib.hid hl2
  have HR := Lib.hid hres
  have HL0 := Lib.hid hL0
  have HLA := Lib.hid hLA
  have HLS := Lib.hid hLS
  have HLT := Lib.hid hLT
  have HLL := Lib.hid hLL
  clear hB1 hB2 hl1 hl2 hres hE hL hN he hC1 hC2 hL0 hLA hLS hLT hLL
  generalize lay (resL xs n s) (bval (sqL n (pV xs n)) (tV s) size) (resL xs n s).length = ly at *
  generalize countv n s.size size = cn at *
  generalize weightv xs n = wt at *
  generalize resL xs n s = rl at *
  go_enter Try.func15, Try.ntmps15
  go_wp2_with fail
  refine R.mono ?_
  rintro e w1 ⟨rfl, hk1⟩
  have hk := kept_trans ka hk1
  replace hb := blk_kept hk1 hb
  have c0 : w1.cell? ⟨w.heap.size, 0, none⟩ = some (.slice A n cap) := blk_cell hb 0
  have c1 : w1.cell? ⟨w.heap.size, 1, none⟩ = some (.int .i64 K) := blk_cell hb 1
  clear R ka hk1
  go_wp2_with fail
  have P := plain_c A cap n xs K hu hl _ (hr.kept hk)
  rw [hpb] at P
  refine P.mono ?_
  rintro e w2 ⟨rfl, hk2⟩
  replace hb := blk_kept hk2 hb
  replace hk := kept_trans hk hk2
  clear P hk2 c0 c1
  have c0 : w2.cell? ⟨w.heap.size, 0, none⟩ = some (.slice A n cap) := blk_cell hb 0
  have c1 : w2.cell? ⟨w.heap.size, 1, none⟩ = some (.int .i64 K) := blk_cell hb 1
  go_wp2_with fail
  refine (madeC_c A cap n xs hu hl (by omega) _ (hr.kept hk)).mono ?_
  rintro e w3 ⟨v3, rfl, own3, hk3⟩
  obtain ⟨A3, cp3, rfl, _, _, rd3⟩ := own3.rd
  rw [mk_length]
  replace rd3 : Rd .u64 w3 A3 (pV xs n) := rd3
  replace hb := blk_kept hk3 hb
  replace hk := kept_trans hk hk3
  clear own3 hk3 c0 c1
  have c0 : w3.cell? ⟨w.heap.size, 0, none⟩ = some (.slice A n cap) := blk_cell hb 0
  have c1 : w3.cell? ⟨w.heap.size, 1, none⟩ = some (.int .i64 K) := blk_cell hb 1
  go_wp2_with (refine wpList_bytes rfl _ _ _ _ rfl s rfl rfl rfl rfl (by omega) ?_)
  intro cp4 w4 rd4 hk4
  replace hb := blk_kept hk4 hb
  replace hk := kept_trans hk hk4
  replace rd3 := rd3.kept hk4
  clear hk4 c0 c1
  have c0 : w4.cell? ⟨w.heap.size, 0, none⟩ = some (.slice A n cap) := blk_cell hb 0
  have c1 : w4.cell? ⟨w.heap.size, 1, none⟩ = some (.int .i64 K) := blk_cell hb 1
  go_wp2_with fail
  refine (madeB_c _ _ s.size (bytesL s) (bytesL_bd s) (bytesL_length s) hsz _ rd4).mono ?_
  rintro e w5 ⟨v5, rfl, own5, hk5⟩
  obtain ⟨A5, cp5, rfl, hcp5, _, rd5⟩ := own5.rd
  rw [mk_length] at hcp5 ⊢
  replace rd5 : Rd .u64 w5 A5 (tV s) := rd5
  replace hb := blk_kept hk5 hb
  replace hk := kept_trans hk hk5
  replace rd3 := rd3.kept hk5
  clear own5 hk5 c0 c1 rd4
  have c0 : w5.cell? ⟨w.heap.size, 0, none⟩ = some (.slice A n cap) := blk_cell hb 0
  have c1 : w5.cell? ⟨w.heap.size, 1, none⟩ = some (.int .i64 K) := blk_cell hb 1
  go_wp2_with fail
  refine (power_c2 _).mono ?_
  rintro e w6 ⟨rfl, hg6, hk6⟩
  replace hb := blk_kept hk6 hb
  replace hk := kept_trans hk hk6
  replace rd3 := rd3.kept hk6
  replace rd5 := rd5.kept hk6
  clear hk6 c0 c1
  have c0 : w6.cell? ⟨w.heap.size, 0, none⟩ = some (.slice A n cap) := blk_cell hb 0
  have c1 : w6.cell? ⟨w.heap.size, 1, none⟩ = some (.int .i64 K) := blk_cell hb 1
  go_wp2_with fail
  refine (madeU_c A3 cp3 n _ (pV xs n) (pV_bd xs n) (pV_len xs n) (by omega) _ rd3 hg6).mono ?_
  rintro e w7 ⟨v7, rfl, own7, hk7⟩
  obtain ⟨A7, cp7, rfl, _, _, rd7⟩ := own7.rd
  rw [mk_length]
  replace rd7 : Rd .u64 w7 A7 (sqL n (pV xs n)) := rd7
  replace hb := blk_kept hk7 hb
  replace hk := kept_trans hk hk7
  replace rd3 := rd3.kept hk7
  replace rd5 := rd5.kept hk7
  clear own7 hk7 c0 c1 hg6
  have c0 : w7.cell? ⟨w.heap.size, 0, none⟩ = some (.slice A n cap) := blk_cell hb 0
  have c1 : w7.cell? ⟨w.heap.size, 1, none⟩ = some (.int .i64 K) := blk_cell hb 1
  go_wp2_with fail
  have C := correlate_c5 A7 A5 cp7 cp5 (sqL n (pV xs n)) (tV s) size (u64_of_bd (by decide) (sqL_bd (pV_bd xs n))) (u64_of_bd (by decide) (tV_bd s)) (by rw [sqL_len]; omega) (by rw [tV_len]; omega) (by rw [tV_len]; exact hcp5) _ rd7 rd5
  rw [sqL_len, tV_len, HB1.out, HC1.out] at C
  refine C.mono ?_
  rintro e w8 ⟨A8, cp8, rfl, rd8, hk8, hcp8, hcq8, own8⟩
  replace own8 := own8.less (Nat.le_refl w7.heap.size)
  have hbase := hk.size
  generalize w7.heap.size = base at *
  replace hb := blk_kept hk8 hb
  replace hk := kept_trans hk hk8
  replace rd3 := rd3.kept hk8
  replace rd5 := rd5.kept hk8
  rw [H1.out] at hcp8 own8 ⊢
  clear C c0 c1 rd7 hk8 rd8
  have c0 : w8.cell? ⟨w.heap.size, 0, none⟩ = some (.slice A n cap) := blk_cell hb 0
  have c1 : w8.cell? ⟨w.heap.size, 1, none⟩ = some (.int .i64 K) := blk_cell hb 1
  go_wp2_with fail
  refine (power_c2 _).mono ?_
  rintro e w9 ⟨rfl, hg9, hk9⟩
  replace hb := blk_kept hk9 hb
  replace hk := kept_trans hk hk9
  replace rd3 := rd3.kept hk9
  replace rd5 := rd5.kept hk9
  replace own8 := own8.kept hk9
  clear hk9 c0 c1
  have c0 : w9.cell? ⟨w.heap.size, 0, none⟩ = some (.slice A n cap) := blk_cell hb 0
  have c1 : w9.cell? ⟨w.heap.size, 1, none⟩ = some (.int .i64 K) := blk_cell hb 1
  go_wp2_with fail
  refine (madeU_c A5 cp5 s.size _ (tV s) (tV_bd s) (tV_len s) (by omega) _ rd5 hg9).mono ?_
  rintro e w10 ⟨v10, rfl, own10, hk10⟩
  obtain ⟨A10, cp10, rfl, hcp10, _, rd10⟩ := own10.rd
  rw [mk_length] at hcp10 ⊢
  replace rd10 : Rd .u64 w10 A10 (sqL s.size (tV s)) := rd10
  replace hb := blk_kept hk10 hb
  replace hk := kept_trans hk hk10
  replace rd3 := rd3.kept hk10
  replace own8 := own8.kept hk10
  clear own10 hk10 c0 c1 hg9 rd5
  have c0 : w10.cell? ⟨w.heap.size, 0, none⟩ = some (.slice A n cap) := blk_cell hb 0
  have c1 : w10.cell? ⟨w.heap.size, 1, none⟩ = some (.int .i64 K) := blk_cell hb 1
  go_wp2_with fail
  have C := correlate_c5 A3 A10 cp3 cp10 (pV xs n) (sqL s.size (tV s)) size (u64_of_bd (by decide) (pV_bd xs n)) (u64_of_bd (by decide) (sqL_bd (tV_bd s))) (by rw [pV_len]; omega) (by rw [sqL_len]; omega) (by rw [sqL_len]; exact hcp10) _ rd3 rd10
  rw [pV_len, sqL_len, HB2.out, HC2.out] at C
  refine C.mono ?_
  rintro e w11 ⟨A11, cp11, rfl, rd11, hk11, hcp11, hcq11, own11⟩
  have hfar : ∀ g, (Value.slice A8 rl.length cp8).ownBlock = some g → g < w10.heap.size := by
    intro g hg
    unfold Own at own8
    rw [H1.out] at own8
    exact (World.ownsRow.lt own8 g hg).2
  have hb2 := hk.size
  generalize w10.heap.size = base2 at *
  replace hb := blk_kept hk11 hb
  replace hk := kept_trans hk hk11
  replace own8 := own8.kept hk11
  rw [H2.out] at hcp11 own11 ⊢
  clear C c0 c1 rd10 rd3 hk11 rd11
  have c0 : w11.cell? ⟨w.heap.size, 0, none⟩ = some (.slice A n cap) := blk_cell hb 0
  have c1 : w11.cell? ⟨w.heap.size, 1, none⟩ = some (.int .i64 K) := blk_cell hb 1
  go_wp2_with fail
  refine (W _ (hr.kept hk)).mono ?_
  rintro e w12 ⟨rfl, hk12⟩
  replace hb := blk_kept hk12 hb
  replace hk := kept_trans hk hk12
  replace own8 := own8.kept hk12
  replace own11 := own11.kept hk12
  clear W c0 c1 hk12 hb hr hu
  have hlr : rl.length = rl.length := rfl
  generalize hrn : rl.length = L at *
  have HRN := Lib.hid hrn
  clear hrn hlr
  have hown0 : w12.ownsRow base 22 1 (.slice A8 L cp8) L ((ly 0).map (Value.int .u64)) := by
    rw [HL0.out]
    unfold Own at own8
    rwa [H1.out] at own8
  clear own8 HL0
  have hw : wrap64 (cn + cn) = 2 * cn := by unfold wrap64; omega
  have HW := Lib.hid hw
  clear hw hcb
  generalize bval (pV xs n) (sqL s.size (tV s)) size = m2 at *
  generalize bval (sqL n (pV xs n)) (tV s) size = m1 at *
  have hown2 : w12.ownsRow base2 22 1 (.slice A11 L cp11) L (m2.map (Value.int .u64)) := by
    unfold Own at own11
    rwa [H2.out] at own11
  clear own11
  go_wp2_with fail
  go_loopw [63] (fun i wr => ∃ q : Nat, q ≤ L ∧ i = .int .i64 q ∧ wr.ownsRow base 22 1 (.slice A8 L cp8) L ((ly q).map (Value.int .u64)) ∧ wr.ownsRow base2 22 1 (.slice A11 L cp11) L (m2.map (Value.int .u64)) ∧ Kept w wr) (fun i _ => L - (intOf i).toNat)
  case atStart => exact ⟨0, Nat.zero_le _, rfl, hown0, hown2, hk⟩
  case round =>
    clear hown0 hown2 hk
    obtain ⟨q, hq, rfl, hown, hown2, hk⟩ := hrel
    by_cases hlt : q < L
    · obtain ⟨g, rfl⟩ : ∃ g, A8 = some ⟨g, 0, none⟩ := by
        have hO : Own .u64 22 base wr (.slice A8 L cp8) (ly q) := by
          unfold Own
          rw [HLL.out]; exact hown
        obtain ⟨g, c, e⟩ := hO.pos (by rw [HLL.out]; omega)
        simp only [Value.slice.injEq] at e
        exact ⟨g, e.1⟩
      obtain ⟨g2, rfl⟩ : ∃ g, A11 = some ⟨g, 0, none⟩ := by
        have hO : Own .u64 22 base2 wr (.slice A11 L cp11) m2 := by
          unfold Own
          rw [H2.out]; exact hown2
        obtain ⟨g, c, e⟩ := hO.pos (by rw [H2.out]; omega)
        simp only [Value.slice.injEq] at e
        exact ⟨g, e.1⟩
      have hlt1 := hfar g rfl
      have hlt2 := (World.ownsRow.lt hown2 g2 rfl).1
      have hgg : g2 ≠ g := by omega
      have c0 := World.ownsRow.cellAt hown q (by omega)
      rw [List.getElem?_map, List.getElem?_eq_getElem (by rw [HLL.out]; omega), Option.map_some, ← nth_lt (by rw [HLL.out]; omega), HLT.out q hlt] at c0
      have c1 := World.ownsRow.cellAt hown2 q (by omega)
      rw [List.getElem?_map, List.getElem?_eq_getElem (by rw [H2.out]; omega), Option.map_some, ← nth_lt (by rw [H2.out]; omega)] at c1
      have hr1 := HR.out q hlt
      have hset := HLS.out q hlt
      have HS := Lib.hid hset
      have HR1 := Lib.hid hr1
      clear hr1 hset HR HLS HLT HLA HW HRN hlt1 hlt2
      have hnl : (ly q).length = L := HLL.out q
      clear HLL
      generalize nth m1 q = x at *
      generalize nth m2 q = y at *
      generalize nth rl q = r at *
      have ea : (⟨g, 0, none⟩ : Addr).add q = ⟨g, q, none⟩ := by unfold Addr.add; split <;> simp_all
      have ea2 : (⟨g2, 0, none⟩ : Addr).add q = ⟨g2, q, none⟩ := by unfold Addr.add; split <;> simp_all
      have HNL := Lib.hid hnl
      clear hnl
      go_wp2_with fail
      have ks_c0 := fun s => kw_cell s c0
      have ks_c1 := fun s => kw_cell s c1
      refine wp_region_tail 14 (by kernel_rfl) (by kernel_rfl) ?_
      simp only [List.take_succ_cons, List.take_zero, List.drop_succ_cons, List.drop_zero]
      repeat (first | go_big_quiet_skip | (go_big_quiet_want; go_big_quiet_op; first | go_big_quiet_on | (apply Exists.intro; refine ⟨fun s => ?_, ?_⟩; (first | fail); go_big_quiet_on)))
      refine wpQuiet_nil ?_
      rintro w13 ⟨⟨_, hk13⟩, rfl⟩
      clear ks_c0 ks_c1 c0 c1
      have hownA := rowKept hown hk13
      have hownB := rowKept hown2 hk13
      have hkA := kept_trans hk hk13
      have d0 := World.ownsRow.cellAt hownA q (by omega)
      rw [List.getElem?_map, List.getElem?_eq_getElem (by rw [HNL.out]; omega), Option.map_some] at d0
      have f0 := World.ownsRow.frozenAt hownA q
      have S := World.ownsRow.stored hownA q (.int .u64 r)
      rw [← List.map_set, HS.out] at S
      rw [← HR1.out] at S
      unfold resW at S
      generalize (ly q)[q]'(by rw [HNL.out]; omega) = old at *
      clear hown hown2 hk hk13
      go_wp2_with fail
      exact ⟨⟨q + 1, by omega, by go_num, S.1, World.ownsRow.kept hownB S.2 (.inr (by simp [Value.ownBlock, hgg])), kept_grown hkA hownA (by omega) S.2⟩, by simp [intOf]; omega⟩
    · obtain rfl : q = L := by omega
      rw [HLA.out] at hown
      have hO : Own .u64 22 base wr (.slice A8 q cp8) rl := by
        unfold Own
        rw [HRN.out]; exact hown
      have hrd := hO.rd
      obtain ⟨B, cB, eB, _, _, rdB⟩ := hrd
      simp only [Value.slice.injEq] at eB
      obtain ⟨rfl, _, rfl⟩ := eB
      clear hown hown2 HLS HLT HLA HLL HR
      go_wp2_with fail
      refine bodyPost_ret (v := .tuple #[.slice A8 q cp8, .int .i64 (2 * cn), .int .i64 0]) (by simp [results, Try.results15, go_sem]; try exact HW.out) rfl ?_
      refine ⟨A8, cp8, by rw [HRN.out], rdB, hk, by rw [HRN.out]; exact hcp8, hcq8, ?_⟩
      rw [HRN.out]
      exact hO.less hbase
set_option maxHeartbeats 1000000 in
theorem sums_c (A : Option Addr) (cap n : Nat) (xs : List Int) (K : Int) (s : ByteArray) (size : Int) (hu : U64 xs) (hl : xs.length = 4 * n) (hsz : s.size ≤ 1000000) (w : World) (hr : Rd .u64 w A xs) : Calls Try.prog 15 #[leafV A n cap K, .string s, .int .i64 size] w (Ans3 (sumsL xs n K s size) (sumsN xs n K s.size size) (sumsE xs n K s.size size) w) := by
  cases hrb : rightv xs n K
  · exact sums_wrong A cap n xs K s size hu hl hsz hrb w hr
  · cases hpb : plainv xs n
    · exact sums_rough A cap n xs K s size hu hl hsz hrb hpb w hr
    · by_cases he : errW n s.size size = 0
      · exact sums_good A cap n xs K s size hu hl hsz hrb hpb he w hr
      · refine sums_small A cap n xs K s size hu hl hsz hrb hpb ?_ w hr
        unfold errW at he ⊢
        split
        · rename_i h
          rw [if_pos h] at he
          split
          · rename_i h2; rw [if_pos h2] at he; exact absurd rfl he
          · rfl
        · rename_i h
          rw [if_neg h] at he; exact absurd rfl he
end Go.Proofs.Ytobailigphmopaa
/-
  Layer 10 (wild): the document's sums.
-/
namespace Go.Proofs.Ytobailigphmopaa
open Go.RowKit BG
attribute [local go_sem ↓] Go.wp_at_zero Go.wp_at_succ
set_option linter.unusedVariables false

theorem resL_eq {xs : List Int} {n : Nat} {s : ByteArray} (h : 1 ≤ n) : resL xs n s = mk (s.size + 1 - n) (sumW xs n s) := by
  unfold resL slb
  by_cases hs : n ≤ s.size
  · rw [if_pos (decide_eq_true ⟨by omega, by omega⟩), show s.size - n + 1 = s.size + 1 - n by omega]
  · rw [if_neg (by simp; omega), show s.size + 1 - n = 0 by omega]; rfl
theorem errW_sz (n m : Nat) (size : Int) : errW n m size = if (slb n m && !szb n size) = true then 50 else 0 := by
  unfold errW
  cases slb n m <;> cases szb n size <;> rfl
theorem term_up (xs : List Int) (s : ByteArray) (i j : Nat) : termW xs s i j = (valv (cls xs j) : Int) * (((byteAt s (i + j) : Int) + 1) - (valv (cls xs j) : Int)) * (((byteAt s (i + j) : Int) + 1) - (valv (cls xs j) : Int)) := by
  unfold termW
  generalize (valv (cls xs j) : Int) = p
  generalize ((byteAt s (i + j) : Nat) : Int) + 1 = b
  rw [Int.mul_assoc, Int.mul_assoc]
  have e : (p - b) * (p - b) = (b - p) * (b - p) := by
    rw [← Int.neg_sub b p, Int.neg_mul_neg]
  rw [e]
theorem rsize10_c (m n size : Int) (hm : 1 ≤ m) (w : World) : Calls Try.prog 39 #[.int .i64 m, .int .i64 n, .int .i64 size] w (Ret (.bool (slb m n && !szb m size)) w) := by
  have C := rlog_c size
  unfold Ltuple at C
  unfold slb szb
  generalize hasLog size = b at *
  generalize lgv size = lg at *
  go_enter Try.func39, Try.ntmps39
  go_wp2_with fail
  refine (C _).mono ?_
  rintro e w1 ⟨rfl, hk1⟩
  clear C
  by_cases hmn : m ≤ n
  · have hd : decide (m ≤ n) = true := decide_eq_true hmn
    cases b
    · go_wp2_with fail
      go_ret
      exact ⟨by simp [hm, hmn], hk1⟩
    · by_cases hs : size < m
      · have hd2 : decide (size < m) = true := decide_eq_true hs
        go_wp2_with fail
        go_ret
        exact ⟨by simp [hm, hmn]; try omega, hk1⟩
      · have hd2 : decide (size < m) = false := decide_eq_false hs
        go_wp2_with fail
        go_ret
        exact ⟨by simp [hm, hmn]; try omega, hk1⟩
  · have hd : decide (m ≤ n) = false := decide_eq_false hmn
    go_wp2_with fail
    go_ret
    exact ⟨by rw [decide_eq_false (show ¬ (1 ≤ m ∧ m ≤ n) by omega)]; rfl, hk1⟩
set_option maxRecDepth 100000 in
set_option maxHeartbeats 8000000 in
theorem rsums_wrong (A : Option Addr) (cap n : Nat) (xs : List Int) (K : Int) (s : ByteArray) (size : Int) (hu : U64 xs) (hl : xs.length = 4 * n) (hn0 : n ≤ 1000000) (hsz : s.size ≤ 1000000) (hrb : rightv xs n K = false) (w : World) (hr : Rd .u64 w A xs) : Calls Try.prog 16 #[leafV A n cap K, .string s, .int .i64 size] w (Ans3 (sumsL xs n K s size) (sumsN xs n K s.size size) (sumsE xs n K s.size size) w) := by
  have hm := hr.1
  have ka := kept_alloc (kept_refl w) (.cells #[.slice A n cap, .int .i64 K] 27)
  have hb := blk_new w (.cells #[.slice A n cap, .int .i64 K] 27)
  have R := rright_c A cap n xs K hu hl _ (hr.kept ka)
  rw [hrb] at R
  have hE : sumsE xs n K s.size size = 170 := by unfold sumsE; rw [hrb]; rfl
  have hL : sumsL xs n K s size = [] := by unfold sumsL; rw [hE, if_neg (by decide)]
  have hN : sumsN xs n K s.size size = 0 := by unfold sumsN; rw [hE, if_neg (by decide)]
  rw [hE]
  have HL := Lib.hid hL
  have HN := Lib.hid hN
  clear hE hL hN
  go_enter Try.func16, Try.ntmps16
  go_wp2_with fail
  refine R.mono ?_
  rintro e w1 ⟨rfl, hk1⟩
  have hk := kept_trans ka hk1
  replace hb := blk_kept hk1 hb
  have c0 : w1.cell? ⟨w.heap.size, 0, none⟩ = some (.slice A n cap) := blk_cell hb 0
  have c1 : w1.cell? ⟨w.heap.size, 1, none⟩ = some (.int .i64 K) := blk_cell hb 1
  clear R ka hk1
  go_wp2_with fail
  exact bodyPost_ret (v := .tuple #[.slice none 0 0, .int .i64 0, .int .i64 170]) (by simp [results, Try.results16, go_sem]) rfl (Ans3.none HL.out HN.out hk)
set_option maxRecDepth 100000 in
set_option maxHeartbeats 8000000 in
theorem rsums_rough (A : Option Addr) (cap n : Nat) (xs : List Int) (K : Int) (s : ByteArray) (size : Int) (hu : U64 xs) (hl : xs.length = 4 * n) (hn0 : n ≤ 1000000) (hsz : s.size ≤ 1000000) (hrb : rightv xs n K = true) (hpb : plainv xs n = false) (w : World) (hr : Rd .u64 w A xs) : Calls Try.prog 16 #[leafV A n cap K, .string s, .int .i64 size] w (Ans3 (sumsL xs n K s size) (sumsN xs n K s.size size) (sumsE xs n K s.size size) w) := by
  have hm := hr.1
  have ka := kept_alloc (kept_refl w) (.cells #[.slice A n cap, .int .i64 K] 27)
  have hb := blk_new w (.cells #[.slice A n cap, .int .i64 K] 27)
  have R := rright_c A cap n xs K hu hl _ (hr.kept ka)
  rw [hrb] at R
  have hE : sumsE xs n K s.size size = 170 := by unfold sumsE; rw [hrb, hpb]; rfl
  have hL : sumsL xs n K s size = [] := by unfold sumsL; rw [hE, if_neg (by decide)]
  have hN : sumsN xs n K s.size size = 0 := by unfold sumsN; rw [hE, if_neg (by decide)]
  rw [hE]
  have HL := Lib.hid hL
  have HN := Lib.hid hN
  clear hE hL hN
  go_enter Try.func16, Try.ntmps16
  go_wp2_with fail
  refine R.mono ?_
  rintro e w1 ⟨rfl, hk1⟩
  have hk := kept_trans ka hk1
  replace hb := blk_kept hk1 hb
  have c0 : w1.cell? ⟨w.heap.size, 0, none⟩ = some (.slice A n cap) := blk_cell hb 0
  have c1 : w1.cell? ⟨w.heap.size, 1, none⟩ = some (.int .i64 K) := blk_cell hb 1
  clear R ka hk1
  go_wp2_with fail
  have P := rplain_c A cap n xs K hu hl _ (hr.kept hk)
  rw [hpb] at P
  refine P.mono ?_
  rintro e w2 ⟨rfl, hk2⟩
  replace hb := blk_kept hk2 hb
  replace hk := kept_trans hk hk2
  clear P hk2 c0 c1
  have c0 : w2.cell? ⟨w.heap.size, 0, none⟩ = some (.slice A n cap) := blk_cell hb 0
  have c1 : w2.cell? ⟨w.heap.size, 1, none⟩ = some (.int .i64 K) := blk_cell hb 1
  go_wp2_with fail
  exact bodyPost_ret (v := .tuple #[.slice none 0 0, .int .i64 0, .int .i64 170]) (by simp [results, Try.results16, go_sem]) rfl (Ans3.none HL.out HN.out hk)
set_option maxRecDepth 100000 in
set_option maxHeartbeats 8000000 in
theorem rsums_small (A : Option Addr) (cap n : Nat) (xs : List Int) (K : Int) (s : ByteArray) (size : Int) (hu : U64 xs) (hl : xs.length = 4 * n) (hn0 : n ≤ 1000000) (hsz : s.size ≤ 1000000) (hrb : rightv xs n K = true) (hpb : plainv xs n = true) (he : (slb n s.size && !szb n size) = true) (w : World) (hr : Rd .u64 w A xs) : Calls Try.prog 16 #[leafV A n cap K, .string s, .int .i64 size] w (Ans3 (sumsL xs n K s size) (sumsN xs n K s.size size) (sumsE xs n K s.size size) w) := by
  have hm := hr.1
  have ka := kept_alloc (kept_refl w) (.cells #[.slice A n cap, .int .i64 K] 27)
  have hb := blk_new w (.cells #[.slice A n cap, .int .i64 K] 27)
  obtain ⟨hn1, hn2, _, _, _⟩ := rightv_n hrb
  have SZ := fun w => rsize10_c n s.size size (by omega) w
  have R := rright_c A cap n xs K hu hl _ (hr.kept ka)
  rw [hrb] at R
  rw [he] at SZ
  have hE : sumsE xs n K s.size size = 50 := by unfold sumsE; rw [hrb, hpb, errW_sz, he]; rfl
  have hL : sumsL xs n K s size = [] := by unfold sumsL; rw [hE, if_neg (by decide)]
  have hN : sumsN xs n K s.size size = 0 := by unfold sumsN; rw [hE, if_neg (by decide)]
  rw [hE]
  have HL := Lib.hid hL
  have HN := Lib.hid hN
  clear hE hL hN
  go_enter Try.func16, Try.ntmps16
  go_wp2_with fail
  refine R.mono ?_
  rintro e w1 ⟨rfl, hk1⟩
  have hk := kept_trans ka hk1
  replace hb := blk_kept hk1 hb
  have c0 : w1.cell? ⟨w.heap.size, 0, none⟩ = some (.slice A n cap) := blk_cell hb 0
  have c1 : w1.cell? ⟨w.heap.size, 1, none⟩ = some (.int .i64 K) := blk_cell hb 1
  clear R ka hk1
  go_wp2_with fail
  have P := rplain_c A cap n xs K hu hl _ (hr.kept hk)
  rw [hpb] at P
  refine P.mono ?_
  rintro e w2 ⟨rfl, hk2⟩
  replace hb := blk_kept hk2 hb
  replace hk := kept_trans hk hk2
  clear P hk2 c0 c1
  have c0 : w2.cell? ⟨w.heap.size, 0, none⟩ = some (.slice A n cap) := blk_cell hb 0
  have c1 : w2.cell? ⟨w.heap.size, 1, none⟩ = some (.int .i64 K) := blk_cell hb 1
  go_wp2_with fail
  refine (SZ _).mono ?_
  rintro e w3 ⟨rfl, hk3⟩
  replace hb := blk_kept hk3 hb
  replace hk := kept_trans hk hk3
  clear SZ hk3 c0 c1
  go_wp2_with fail
  exact bodyPost_ret (v := .tuple #[.slice none 0 0, .int .i64 0, .int .i64 50]) (by simp [results, Try.results16, go_sem]) rfl (Ans3.none HL.out HN.out hk)
set_option maxRecDepth 100000 in
set_option maxHeartbeats 8000000 in
theorem rsums_good (A : Option Addr) (cap n : Nat) (xs : List Int) (K : Int) (s : ByteArray) (size : Int) (hu : U64 xs) (hl : xs.length = 4 * n) (hn0 : n ≤ 1000000) (hsz : s.size ≤ 1000000) (hrb : rightv xs n K = true) (hpb : plainv xs n = true) (he : (slb n s.size && !szb n size) = false) (w : World) (hr : Rd .u64 w A xs) : Calls Try.prog 16 #[leafV A n cap K, .string s, .int .i64 size] w (Ans3 (sumsL xs n K s size) (sumsN xs n K s.size size) (sumsE xs n K s.size size) w) := by
  have hm := hr.1
  have ka := kept_alloc (kept_refl w) (.cells #[.slice A n cap, .int .i64 K] 27)
  have hb := blk_new w (.cells #[.slice A n cap, .int .i64 K] 27)
  obtain ⟨hn1, hn2, _, _, _⟩ := rightv_n hrb
  have SZ := fun w => rsize10_c n s.size size (by omega) w
  have R := rright_c A cap n xs K hu hl _ (hr.kept ka)
  rw [hrb] at R
  rw [he] at SZ
  obtain ⟨i1, hif1, hy0, hy1, hy2⟩ := info_parts info_u64
  have hE : sumsE xs n K s.size size = 0 := by unfold sumsE; rw [hrb, hpb, errW_sz, he]; rfl
  have hL : sumsL xs n K s size = mk (s.size + 1 - n) (sumW xs n s) := by unfold sumsL; rw [hE, if_pos rfl, resL_eq hn1]
  have hN : sumsN xs n K s.size size = 2 * countv n s.size size := by unfold sumsN; rw [hE, if_pos rfl]
  have hcb := countv_bd n s.size size
  have CT := fun w => rcount_c n s.size size w
  rw [hE, hL, hN]
  have V := fun j w1 => rvalue_c (cls xs j) (cls_ok hu j) w1
  have hv := fun j => valv_le (cls xs j)
  have hsu := fun i => mk_succ i (sumW xs n s)
  have hts := fun i j => (show sumTo (j + 1) (termW xs s i) = sumTo j (termW xs s i) + termW xs s i j from rfl)
  have htb := fun i j => sumW_bd xs s i j
  have hsw := fun i => (show sumTo n (termW xs s i) = sumW xs n s i from rfl)
  have HSU := Lib.hid hsu
  have HTS := Lib.hid hts
  have HTB := Lib.hid htb
  have HSW := Lib.hid hsw
  have hw : wrap64 (2 * countv n s.size size) = 2 * countv n s.size size := by unfold wrap64; omega
  have HW := Lib.hid hw
  clear hE hL hN he hsu hts htb hsw hw
  generalize sumW xs n s = sw at *
  generalize countv n s.size size = cn at *
  go_enter Try.func16, Try.ntmps16
  go_wp2_with fail
  refine R.mono ?_
  rintro e w1 ⟨rfl, hk1⟩
  have hk := kept_trans ka hk1
  replace hb := blk_kept hk1 hb
  have c0 : w1.cell? ⟨w.heap.size, 0, none⟩ = some (.slice A n cap) := blk_cell hb 0
  have c1 : w1.cell? ⟨w.heap.size, 1, none⟩ = some (.int .i64 K) := blk_cell hb 1
  clear R ka hk1
  go_wp2_with fail
  have P := rplain_c A cap n xs K hu hl _ (hr.kept hk)
  rw [hpb] at P
  refine P.mono ?_
  rintro e w2 ⟨rfl, hk2⟩
  replace hb := blk_kept hk2 hb
  replace hk := kept_trans hk hk2
  clear P hk2 c0 c1
  have c0 : w2.cell? ⟨w.heap.size, 0, none⟩ = some (.slice A n cap) := blk_cell hb 0
  have c1 : w2.cell? ⟨w.heap.size, 1, none⟩ = some (.int .i64 K) := blk_cell hb 1
  go_wp2_with fail
  refine (SZ _).mono ?_
  rintro e w3 ⟨rfl, hk3⟩
  replace hb := blk_kept hk3 hb
  replace hk := kept_trans hk hk3
  clear SZ hk3 c0 c1
  go_wp2_with fail
  go_loopw [10, 11] (fun v iv wr => ∃ i : Nat, i ≤ s.size + 1 - n ∧ iv = .int .i64 i ∧ wr.heap[w.heap.size]? = some (.cells #[.slice A n cap, .int .i64 K] 27 (0, 0)) ∧ Own .u64 22 (w.heap.size + 1) wr v (mk i sw) ∧ Kept w wr ∧ w.heap.size + 1 ≤ wr.heap.size) (fun _ iv _ => s.size + 1 - (intOf iv).toNat)
  case atStart => exact ⟨0, Nat.zero_le _, rfl, hb, Own.nil _ _ _ _, hk, by have := blk_lt hb; omega⟩
  case round =>
    clear hb hk
    obtain ⟨i, hi, rfl, hb, hown, hkw, hbase⟩ := hrel
    by_cases hlt : i + n ≤ s.size
    · have hg : (i : Int) + (n : Int) ≤ (s.size : Int) := by omega
      have hgd : decide ((i : Int) + (n : Int) ≤ (s.size : Int)) = true := decide_eq_true hg
      have HSU := Lib.hid (HSU.out i)
      have HTS := Lib.hid (HTS.out i)
      have HTB := Lib.hid (HTB.out i)
      have HSW := Lib.hid (HSW.out i)
      have HUP := Lib.hid (fun j => term_up xs s i j)
      have HTW := Lib.hid (fun j => (show termW xs s i j = (valv (cls xs j) : Int) * ((valv (cls xs j) : Int) - ((byteAt s (i + j) : Int) + 1)) * ((valv (cls xs j) : Int) - ((byteAt s (i + j) : Int) + 1)) from rfl))
      have HNN := Lib.hid (fun j => (show 0 ≤ termW xs s i j from nn_sq _ _ (Int.natCast_nonneg _)))
      generalize termW xs s i = tw at *
      obtain ⟨wo, rfl⟩ : ∃ wo, wo = wr := ⟨_, rfl⟩
      go_wp2_with fail
      go_loopw [12, 13] (fun x jv w4 => ∃ j : Nat, j ≤ n ∧ jv = .int .i64 j ∧ x = .int .u64 (sumTo j tw) ∧ w4.heap[w.heap.size]? = some (.cells #[.slice A n cap, .int .i64 K] 27 (0, 0)) ∧ Kept wo w4) (fun _ jv _ => n - (intOf jv).toNat)
      case atStart => exact ⟨0, Nat.zero_le _, rfl, rfl, hb, kept_refl _⟩
      case round =>
        clear hb
        obtain ⟨j, hj, rfl, rfl, hb, hk4⟩ := hrel
        by_cases hltj : j < n
        · have V := V j
          have hv := hv j
          have c0 : wr.cell? ⟨w.heap.size, 0, none⟩ = some (.slice A n cap) := blk_cell hb 0
          obtain ⟨ad, hA, d0, d1, d2, d3⟩ := (hr.kept (kept_trans hkw hk4)).cl hl hltj
          subst hA
          have hij : i + j < s.size := by omega
          have hbt := byteAt_eq hij
          have hbl := byteAt_lt s (i + j)
          have hx1 : 0 ≤ (i : Int) + (j : Int) := by omega
          have hx2 : (i : Int) + (j : Int) < (s.size : Int) := by omega
          have hx3 : ((i : Int) + (j : Int)).toNat = i + j := by omega
          have htw := HTW.out j
          have hup := HUP.out j
          have hb0 := HTB.out j
          have hb1 := HTB.out (j + 1)
          have hss := HTS.out j
          clear HTW HUP HTB HTS HSU HSW HW hcb hbase hown
          generalize valv (cls xs j) = vl at *
          generalize byteAt s (i + j) = b at *
          generalize cls xs j = x at *
          have h0t := HNN.out j
          generalize hS1 : sumTo (j + 1) tw = S1 at *
          have HS1 := Lib.hid hS1
          clear hS1 HNN
          generalize sumTo j tw = S0 at *
          generalize tw j = t at *
          have w4 : IntKind.u64.wrap (S0 + t) = S1 := by rw [IntKind.wrap_u64]; omega
          have w3 : IntKind.u64.wrap t = t := by rw [IntKind.wrap_u64]; omega
          have W4 := Lib.hid w4
          obtain ⟨x0, x1, x2, x3⟩ := x
          dsimp only [Cl.v] at d0 d1 d2 d3 V
          by_cases hgt : (b : Int) + 1 < (vl : Int)
          · have hgd : decide ((b : Int) + 1 < (vl : Int)) = true := decide_eq_true hgt
            have h2 : 0 ≤ (vl : Int) * ((vl : Int) - ((b : Int) + 1)) ∧ (vl : Int) * ((vl : Int) - ((b : Int) + 1)) ≤ 65536 := ⟨Int.mul_nonneg (by omega) (by omega), Int.le_trans (Int.mul_le_mul (show (vl : Int) ≤ 256 by omega) (show (vl : Int) - ((b : Int) + 1) ≤ 256 by omega) (by omega) (by omega)) (by decide)⟩
            have w2 : IntKind.u64.wrap ((vl : Int) * ((vl : Int) - ((b : Int) + 1))) = (vl : Int) * ((vl : Int) - ((b : Int) + 1)) := by rw [IntKind.wrap_u64]; omega
            have w1 : IntKind.u64.wrap ((vl : Int) - ((b : Int) + 1)) = (vl : Int) - ((b : Int) + 1) := by rw [IntKind.wrap_u64]; omega
            have HT := Lib.hid htw
            have W1 := Lib.hid w1
            have W2 := Lib.hid w2
            have W3 := Lib.hid w3
            clear w1 w2 w3 w4 h2 htw hup hss hb0 hb1
            go_wp2_with fail
            refine (V _).mono ?_
            rintro e w5 ⟨rfl, hk5⟩
            replace hb := blk_kept hk5 hb
            replace hk4 := kept_trans hk4 hk5
            clear V d0 d1 d2 d3 c0 hk5
            go_wp2_with fail
            exact ⟨⟨j + 1, by omega, by go_num, by first | rw [W2.out, ← HT.out, W3.out, W4.out, HS1.out] | rw [W1.out, W2.out, ← HT.out, W3.out, W4.out, HS1.out], hb, hk4⟩, by simp [intOf]; omega⟩
          · have hgd : decide ((b : Int) + 1 < (vl : Int)) = false := decide_eq_false hgt
            have h2 : 0 ≤ (vl : Int) * (((b : Int) + 1) - (vl : Int)) ∧ (vl : Int) * (((b : Int) + 1) - (vl : Int)) ≤ 65536 := ⟨Int.mul_nonneg (by omega) (by omega), Int.le_trans (Int.mul_le_mul (show (vl : Int) ≤ 256 by omega) (show ((b : Int) + 1) - (vl : Int) ≤ 256 by omega) (by omega) (by omega)) (by decide)⟩
            have w2 : IntKind.u64.wrap ((vl : Int) * (((b : Int) + 1) - (vl : Int))) = (vl : Int) * (((b : Int) + 1) - (vl : Int)) := by rw [IntKind.wrap_u64]; omega
            have w1 : IntKind.u64.wrap (((b : Int) + 1) - (vl : Int)) = ((b : Int) + 1) - (vl : Int) := by rw [IntKind.wrap_u64]; omega
            have HT := Lib.hid hup
            have W1 := Lib.hid w1
            have W2 := Lib.hid w2
            have W3 := Lib.hid w3
            clear w1 w2 w3 w4 h2 htw hup hss hb0 hb1
            go_wp2_with fail
            refine (V _).mono ?_
            rintro e w5 ⟨rfl, hk5⟩
            replace hb := blk_kept hk5 hb
            replace hk4 := kept_trans hk4 hk5
            clear V d0 d1 d2 d3 c0 hk5
            go_wp2_with fail
            exact ⟨⟨j + 1, by omega, by go_num, by first | rw [W2.out, ← HT.out, W3.out, W4.out, HS1.out] | rw [W1.out, W2.out, ← HT.out, W3.out, W4.out, HS1.out], hb, hk4⟩, by simp [intOf]; omega⟩
        · obtain rfl : j = n := by omega
          rw [HSW.out]
          replace hown := hown.kept hk4
          replace hbase := Nat.le_trans hbase hk4.size
          replace hkw := kept_trans hkw hk4
          have HS2 := Lib.hid HSU.out
          clear HTW HUP HTB HTS HSU HSW HW hk4 V hv
          generalize sw i = x at *
          have hown2 : World.ownsRow _ _ _ _ _ _ _ := hown
          rw [mk_length] at hown2
          go_wp2_with (at_builtin; refine wpList_append_own _ rfl _ _ 33 rfl (w.heap.size + 1) 22 i1 (.int .u64 0) 1 8 Try.underlying33 hif1 hy0 hy1 hy2 rfl (by decide) _ _ _ rfl (hown2.alloc _) ⟨wr.heap.size, 0, none⟩ 1 1 [.int .u64 x] rfl rfl ?c1 ?c2 ?c3 ?c4 ?c5 ?_)
          case c1 =>
            intro q u hq
            match q, hq with
            | 0, hq => simp at hq; subst hq; simp [Addr.add]
          case c2 => intro u hu; simp at hu; subst hu; rfl
          case c3 => unfold maxLen; omega
          case c4 => omega
          case c5 => simp; omega
          · intro v' w5 hown' hgrow _
            have o5 : Own .u64 22 (w.heap.size + 1) w5 v' (mk (i + 1) sw) := by
              unfold Own
              rw [mk_length, HS2.out, List.map_append]
              exact hown'
            have K5 := kept_grown (kept_alloc hkw _) (hown2.alloc _) (Nat.le_succ _) hgrow
            have hb5 := (hgrow.block w.heap.size (by simp; omega) (own_farN hown2 (Nat.lt_succ_self _))).trans (blk_alloc hb _)
            have hs5 := Nat.le_trans (show w.heap.size + 1 ≤ (wr.alloc (.cells #[.int .u64 x] 22)).heap.size by simp; omega) hgrow.size
            clear hown' hgrow hown2 hown
            go_wp2_with fail
            exact ⟨⟨i + 1, by omega, by go_num, hb5, o5, K5, hs5⟩, by simp [intOf]; omega⟩
    · have hg : ¬ (i : Int) + (n : Int) ≤ (s.size : Int) := by omega
      have hgd : decide ((i : Int) + (n : Int) ≤ (s.size : Int)) = false := decide_eq_false hg
      have hin : i = s.size + 1 - n := by omega
      have CT := CT
      clear HTS HTB HSW HSU V hv hb
      go_wp2_with fail
      refine (CT _).mono ?_
      rintro e w8 ⟨rfl, hk8⟩
      obtain ⟨B, cB, rfl, h5, h6, rd8⟩ := (hown.kept hk8).rd
      have o8 := hown.kept hk8
      replace hkw := kept_trans hkw hk8
      clear CT hown hk8 hg hgd
      rw [mk_length] at h5 o8
      go_wp2_with fail
      refine bodyPost_ret (v := .tuple #[.slice B i cB, .int .i64 (2 * cn), .int .i64 0]) (by simp [results, Try.results16, go_sem]; try (first | exact HW.out | exact ⟨by rw [mk_length]; omega, HW.out⟩ | (rw [mk_length]; omega))) rfl ?_
      rw [← hin]
      exact ⟨B, cB, by rw [mk_length], rd8, hkw, by rw [mk_length]; exact h5, h6, by rw [mk_length]; exact o8.less (Nat.le_succ _)⟩
set_option maxHeartbeats 1000000 in
theorem rsums_c (A : Option Addr) (cap n : Nat) (xs : List Int) (K : Int) (s : ByteArray) (size : Int) (hu : U64 xs) (hl : xs.length = 4 * n) (hn0 : n ≤ 1000000) (hsz : s.size ≤ 1000000) (w : World) (hr : Rd .u64 w A xs) : Calls Try.prog 16 #[leafV A n cap K, .string s, .int .i64 size] w (Ans3 (sumsL xs n K s size) (sumsN xs n K s.size size) (sumsE xs n K s.size size) w) := by
  cases hrb : rightv xs n K
  · exact rsums_wrong A cap n xs K s size hu hl hn0 hsz hrb w hr
  · cases hpb : plainv xs n
    · exact rsums_rough A cap n xs K s size hu hl hn0 hsz hrb hpb w hr
    · cases he : slb n s.size && !szb n size
      · exact rsums_good A cap n xs K s size hu hl hn0 hsz hrb hpb he w hr
      · exact rsums_small A cap n xs K s size hu hl hn0 hsz hrb hpb he w hr
end Go.Proofs.Ytobailigphmopaa
/-
  Layer 10 (wild): where a leaf is found.
-/
namespace Go.Proofs.Ytobailigphmopaa
open Go.RowKit BG
attribute [local go_sem ↓] Go.wp_at_zero Go.wp_at_succ
set_option linter.unusedVariables false

def zerT (ys : List Int) (q : Nat) : List Int := ((List.range q).filter fun i => decide (nth ys i = 0)).map fun i : Nat => (i : Int)
theorem zerT_yes {ys : List Int} {q : Nat} (h : nth ys q = 0) : zerT ys (q + 1) = zerT ys q ++ [(q : Int)] := by
  unfold zerT
  rw [List.range_succ, List.filter_append, List.map_append]
  simp [h]
theorem zerT_no {ys : List Int} {q : Nat} (h : ¬ nth ys q = 0) : zerT ys (q + 1) = zerT ys q := by
  unfold zerT
  rw [List.range_succ, List.filter_append, List.map_append]
  simp [h]
theorem zerT_len (ys : List Int) (q : Nat) : (zerT ys q).length ≤ q := by
  unfold zerT
  rw [List.length_map]
  have := List.length_filter_le (fun i => decide (nth ys i = 0)) (List.range q)
  rwa [List.length_range] at this
def findE (xs : List Int) (n : Nat) (K : Int) (m : Nat) (size : Int) : Int := if K = 0 then sumsE xs n K m size else 170
def findN (xs : List Int) (n : Nat) (K : Int) (m : Nat) (size : Int) : Int := if K = 0 then sumsN xs n K m size else 0
def findL (xs : List Int) (n : Nat) (K : Int) (s : ByteArray) (size : Int) : List Int := if K = 0 then zerT (sumsL xs n K s size) (sumsL xs n K s size).length else []
theorem sumsL_len (xs : List Int) (n : Nat) (K : Int) (s : ByteArray) (size : Int) : (sumsL xs n K s size).length ≤ s.size + 1 := by
  unfold sumsL resL
  split
  · split
    · rw [mk_length]; omega
    · exact Nat.zero_le _
  · exact Nat.zero_le _
def AnsI (l : List Int) (c er : Int) (w : World) (e : Ending) (w' : World) : Prop :=
  ∃ A cap, e = .returned (.tuple #[.slice A l.length cap, .int .i64 c, .int .i64 er]) ∧ Rd .i64 w' A l ∧ Kept w w'
set_option maxRecDepth 100000 in
set_option maxHeartbeats 8000000 in
theorem find_c (A : Option Addr) (cap n : Nat) (xs : List Int) (K : Int) (s : ByteArray) (size : Int) (hu : U64 xs) (hl : xs.length = 4 * n) (hn0 : n ≤ 1000000) (hsz : s.size ≤ 900000) (w : World) (hr : Rd .u64 w A xs) : Calls Try.prog 18 #[leafV A n cap K, .string s, .int .i64 size] w (AnsI (findL xs n K s size) (findN xs n K s.size size) (findE xs n K s.size size) w) := by
  have hm := hr.1
  have ka := kept_alloc (kept_refl w) (.cells #[.slice A n cap, .int .i64 K] 27)
  have hb := blk_new w (.cells #[.slice A n cap, .int .i64 K] 27)
  unfold findL findN findE
  by_cases hK : K = 0
  · rw [if_pos hK, if_pos hK, if_pos hK]
    obtain ⟨i1, hif1, hy0, hy1, hy2⟩ := info_parts info_i64c
    have S := sums_c A cap n xs K s size hu hl (by omega) _ (hr.kept ka)
    have hlen := sumsL_len xs n K s size
    generalize sumsL xs n K s size = sl at *
    generalize sumsN xs n K s.size size = sn at *
    generalize sumsE xs n K s.size size = se at *
    have hyes := fun q => zerT_yes (ys := sl) (q := q)
    have hno := fun q => zerT_no (ys := sl) (q := q)
    have hle := zerT_len sl
    have h0 : zerT sl 0 = [] := rfl
    have HYES := Lib.hid hyes
    have HNO := Lib.hid hno
    have H0 := Lib.hid h0
    clear hyes hno h0
    generalize zerT sl = zt at *
    subst hK
    go_enter Try.func18, Try.ntmps18
    go_wp2_with fail
    refine S.mono ?_
    rintro e w1 ⟨B, cB, rfl, rd, hk1, _, _, _⟩
    have hk := kept_trans ka hk1
    clear S hb hk1
    generalize hn : sl.length = L at *
    have HN := Lib.hid hn
    clear hn
    go_wp2_with fail
    go_loopw [12, 28] (fun v iv wr => ∃ i : Nat, i ≤ L ∧ iv = .int .i64 i ∧ Own .i64 3 w1.heap.size wr v (zt i) ∧ Kept w1 wr ∧ Kept w wr) (fun _ iv _ => L - (intOf iv).toNat)
    case atStart => exact ⟨0, Nat.zero_le _, rfl, by rw [H0.out]; exact Own.nil _ _ _ _, kept_refl _, hk⟩
    case round =>
      obtain ⟨i, hi, rfl, hown, hk1r, hkw⟩ := hrel
      by_cases hlt : i < L
      · obtain ⟨ad, rfl, c0⟩ := (rd.kept hk1r).at_ (j := i) (by rw [HN.out]; exact hlt)
        have hyes := HYES.out i
        have hno := HNO.out i
        have hle := hle i
        have hbase := hk1r.size
        have HY := Lib.hid hyes
        have HO := Lib.hid hno
        clear hyes hno HYES HNO H0
        generalize nth sl i = y at *
        by_cases hy : y = 0
        · have HN1 := Lib.hid (HY.out hy)
          subst hy
          have hown2 : World.ownsRow _ _ _ _ _ _ _ := hown
          clear HY HO
          go_wp2_with (at_builtin; refine wpList_append_own _ rfl _ _ 39 rfl w1.heap.size 3 i1 (.int .i64 0) 1 8 Try.underlying39 hif1 hy0 hy1 hy2 rfl (by decide) _ _ _ rfl (hown2.alloc _) ⟨wr.heap.size, 0, none⟩ 1 1 [.int .i64 (i : Nat)] rfl rfl ?c1 ?c2 ?c3 ?c4 ?c5 ?_)
          case c1 =>
            intro q u hq
            match q, hq with
            | 0, hq => simp at hq; subst hq; simp [Addr.add]
          case c2 => intro u hu; simp at hu; subst hu; rfl
          case c3 => unfold maxLen; omega
          case c4 => omega
          case c5 => simp; omega
          · intro v' w5 hown' hgrow _
            have o5 := own_snoc hown'
            rw [← HN1.out] at o5
            have K5 := kept_grown (kept_alloc hkw _) (hown2.alloc _) hk.size hgrow
            have K6 := kept_grown (kept_alloc hk1r _) (hown2.alloc _) (Nat.le_refl _) hgrow
            clear hown' hgrow hown2 hown c0
            go_wp2_with fail
            exact ⟨⟨i + 1, by omega, by go_num, o5, K6, K5⟩, by simp [intOf]; omega⟩
        · have hyd : (y == 0) = false := by rw [beq_eq_false_iff_ne]; exact hy
          have HN1 := Lib.hid (HO.out hy)
          clear HY HO
          go_wp2_with fail
          exact ⟨⟨i + 1, by omega, by go_num, by rw [HN1.out]; exact hown, hk1r, hkw⟩, by simp [intOf]; omega⟩
      · obtain rfl : i = L := by omega
        obtain ⟨D, cD, rfl, _, _, rdD⟩ := hown.rd
        clear HYES HNO H0 hown
        go_wp2_with fail
        exact bodyPost_ret (v := .tuple #[.slice D (zt i).length cD, .int .i64 sn, .int .i64 se]) (by simp [results, Try.results18, go_sem]) rfl ⟨D, cD, rfl, rdD, hkw⟩
  · rw [if_neg hK, if_neg hK, if_neg hK]
    have hkd : (K == 0) = false := by rw [beq_eq_false_iff_ne]; exact hK
    have hkd2 : (K != 0) = true := by rw [bne_iff_ne]; exact hK
    go_enter Try.func18, Try.ntmps18
    go_wp2_with fail
    exact bodyPost_ret (v := .tuple #[.slice none 0 0, .int .i64 0, .int .i64 170]) (by simp [results, Try.results18, go_sem]) rfl ⟨none, 0, rfl, Rd.nil _ _ _, ka⟩
set_option maxRecDepth 100000 in
set_option maxHeartbeats 8000000 in
theorem rfind_c (A : Option Addr) (cap n : Nat) (xs : List Int) (K : Int) (s : ByteArray) (size : Int) (hu : U64 xs) (hl : xs.length = 4 * n) (hn0 : n ≤ 1000000) (hsz : s.size ≤ 900000) (w : World) (hr : Rd .u64 w A xs) : Calls Try.prog 19 #[leafV A n cap K, .string s, .int .i64 size] w (AnsI (findL xs n K s size) (findN xs n K s.size size) (findE xs n K s.size size) w) := by
  have hm := hr.1
  have ka := kept_alloc (kept_refl w) (.cells #[.slice A n cap, .int .i64 K] 27)
  have hb := blk_new w (.cells #[.slice A n cap, .int .i64 K] 27)
  unfold findL findN findE
  by_cases hK : K = 0
  · rw [if_pos hK, if_pos hK, if_pos hK]
    obtain ⟨i1, hif1, hy0, hy1, hy2⟩ := info_parts info_i64c
    have S := rsums_c A cap n xs K s size hu hl hn0 (by omega) _ (hr.kept ka)
    have hlen := sumsL_len xs n K s size
    generalize sumsL xs n K s size = sl at *
    generalize sumsN xs n K s.size size = sn at *
    generalize sumsE xs n K s.size size = se at *
    have hyes := fun q => zerT_yes (ys := sl) (q := q)
    have hno := fun q => zerT_no (ys := sl) (q := q)
    have hle := zerT_len sl
    have h0 : zerT sl 0 = [] := rfl
    have HYES := Lib.hid hyes
    have HNO := Lib.hid hno
    have H0 := Lib.hid h0
    clear hyes hno h0
    generalize zerT sl = zt at *
    subst hK
    go_enter Try.func19, Try.ntmps19
    go_wp2_with fail
    refine S.mono ?_
    rintro e w1 ⟨B, cB, rfl, rd, hk1, _, _, _⟩
    have hk := kept_trans ka hk1
    clear S hb hk1
    generalize hn : sl.length = L at *
    have HN := Lib.hid hn
    clear hn
    go_wp2_with fail
    go_loopw [12, 13] (fun v iv wr => ∃ i : Nat, i ≤ L ∧ iv = .int .i64 i ∧ Own .i64 3 w1.heap.size wr v (zt i) ∧ Kept w1 wr ∧ Kept w wr) (fun _ iv _ => L - (intOf iv).toNat)
    case atStart => exact ⟨0, Nat.zero_le _, rfl, by rw [H0.out]; exact Own.nil _ _ _ _, kept_refl _, hk⟩
    case round =>
      obtain ⟨i, hi, rfl, hown, hk1r, hkw⟩ := hrel
      by_cases hlt : i < L
      · obtain ⟨ad, rfl, c0⟩ := (rd.kept hk1r).at_ (j := i) (by rw [HN.out]; exact hlt)
        have hyes := HYES.out i
        have hno := HNO.out i
        have hle := hle i
        have hbase := hk1r.size
        have HY := Lib.hid hyes
        have HO := Lib.hid hno
        clear hyes hno HYES HNO H0
        generalize nth sl i = y at *
        by_cases hy : y = 0
        · have HN1 := Lib.hid (HY.out hy)
          subst hy
          have hown2 : World.ownsRow _ _ _ _ _ _ _ := hown
          clear HY HO
          go_wp2_with (at_builtin; refine wpList_append_own _ rfl _ _ 39 rfl w1.heap.size 3 i1 (.int .i64 0) 1 8 Try.underlying39 hif1 hy0 hy1 hy2 rfl (by decide) _ _ _ rfl (hown2.alloc _) ⟨wr.heap.size, 0, none⟩ 1 1 [.int .i64 (i : Nat)] rfl rfl ?c1 ?c2 ?c3 ?c4 ?c5 ?_)
          case c1 =>
            intro q u hq
            match q, hq with
            | 0, hq => simp at hq; subst hq; simp [Addr.add]
          case c2 => intro u hu; simp at hu; subst hu; rfl
          case c3 => unfold maxLen; omega
          case c4 => omega
          case c5 => simp; omega
          · intro v' w5 hown' hgrow _
            have o5 := own_snoc hown'
            rw [← HN1.out] at o5
            have K5 := kept_grown (kept_alloc hkw _) (hown2.alloc _) hk.size hgrow
            have K6 := kept_grown (kept_alloc hk1r _) (hown2.alloc _) (Nat.le_refl _) hgrow
            clear hown' hgrow hown2 hown c0
            go_wp2_with fail
            exact ⟨⟨i + 1, by omega, by go_num, o5, K6, K5⟩, by simp [intOf]; omega⟩
        · have hyd : (y == 0) = false := by rw [beq_eq_false_iff_ne]; exact hy
          have HN1 := Lib.hid (HO.out hy)
          clear HY HO
          go_wp2_with fail
          exact ⟨⟨i + 1, by omega, by go_num, by rw [HN1.out]; exact hown, hk1r, hkw⟩, by simp [intOf]; omega⟩
      · obtain rfl : i = L := by omega
        obtain ⟨D, cD, rfl, _, _, rdD⟩ := hown.rd
        clear HYES HNO H0 hown
        go_wp2_with fail
        exact bodyPost_ret (v := .tuple #[.slice D (zt i).length cD, .int .i64 sn, .int .i64 se]) (by simp [results, Try.results19, go_sem]) rfl ⟨D, cD, rfl, rdD, hkw⟩
  · rw [if_neg hK, if_neg hK, if_neg hK]
    have hkd : (K == 0) = false := by rw [beq_eq_false_iff_ne]; exact hK
    have hkd2 : (K != 0) = true := by rw [bne_iff_ne]; exact hK
    go_enter Try.func19, Try.ntmps19
    go_wp2_with fail
    exact bodyPost_ret (v := .tuple #[.slice none 0 0, .int .i64 0, .int .i64 170]) (by simp [results, Try.results19, go_sem]) rfl ⟨none, 0, rfl, Rd.nil _ _ _, ka⟩
end Go.Proofs.Ytobailigphmopaa
