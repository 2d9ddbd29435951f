/-
  Texts of one claim, joined: WBlk8.
-/
import Derived.Deep.AppendLies
import Derived.Test.YtdejablhpljdfaaGreatQ10
namespace Go.Proofs.YtdejablhpljdfaaGreat
open Go.RowKit BG
attribute [local go_sem ↓] Go.wp_at_zero Go.wp_at_succ run_min_at run_max_at
attribute [local go_sem] Oper.semAt_some
set_option linter.unusedVariables false
theorem nth_le_gr {xs : List Int} (hu : U64 xs) (j : Nat) : 0 ≤ nth xs j ∧ nth xs j ≤ greatest xs := by
  by_cases h : j < xs.length
  · exact ⟨(hu j).1, le_greatest h⟩
  · have : nth xs j = 0 := by unfold nth; rw [List.getD_eq_getElem?_getD, List.getElem?_eq_none (by omega)]; rfl
    rw [this]; exact ⟨Int.le_refl 0, (greatest_bd hu).1⟩
theorem sl_bd {ps ts : List Int} (hu : U64 ps) (hv : U64 ts) (h : greatest ps * greatest ts * (ps.length : Int) ≤ 18446744073709551615) (i : Nat) : 0 ≤ sl (nth ps) (nth ts) ps.length i ∧ sl (nth ps) (nth ts) ps.length i ≤ 18446744073709551615 := by
  refine ⟨sumTo_nonneg fun j _ => Int.mul_nonneg (nth_le_gr hu j).1 (nth_le_gr hv _).1, Int.le_trans (sumTo_le (m := greatest ps * greatest ts) fun j _ => ?_) h⟩
  exact Int.mul_le_mul (nth_le_gr hu j).2 (nth_le_gr hv _).2 (nth_le_gr hv _).1 (greatest_bd hu).1
theorem blocks_top (sums each : Nat) : ((sums - 1) / each + 1) * each ≤ sums + each := by
  have h1 := Nat.div_mul_le_self (sums - 1) each
  rw [Nat.succ_mul]
  omega
def flB (ps ts : List Int) (sums each : Nat) {NB : Nat} (pre : List (BI NB)) : List Int := pre.flatMap fun x => mk (manyv sums each x.1) fun i => sl (nth ps) (nth ts) ps.length (x.1 * each + i)
theorem flB_len (ps ts : List Int) (sums each : Nat) {NB : Nat} (pre : List (BI NB)) : (flB ps ts sums each pre).length ≤ pre.length * each := by
  unfold flB
  induction pre with
  | nil => simp
  | cons x l ih =>
    rw [List.flatMap_cons, List.length_append, mk_length, List.length_cons, Nat.succ_mul]
    have : manyv sums each x.1 ≤ each := by unfold manyv; omega
    omega
theorem flB_snoc (ps ts : List Int) (sums each : Nat) {NB : Nat} (pre : List (BI NB)) (x : BI NB) : flB ps ts sums each (pre ++ [x]) = flB ps ts sums each pre ++ mk (manyv sums each x.1) fun i => sl (nth ps) (nth ts) ps.length (x.1 * each + i) := by
  unfold flB; simp
theorem partv_length (ts : List Int) (a L : Nat) : (partv ts a L).length = L := mk_length _ _
theorem u64_part {ts : List Int} (hv : U64 ts) (a L : Nat) : U64 (partv ts a L) := by
  intro j
  by_cases h : j < L
  · unfold partv; rw [nth_mk h]; exact hv _
  · unfold nth; rw [List.getD_eq_getElem?_getD, List.getElem?_eq_none (by rw [partv_length]; omega)]; exact ⟨Int.le_refl 0, by decide⟩
theorem fwdv_nonneg (k : Int) (xs : List Int) (j : Nat) : 0 ≤ nth (fwdv k xs) j := by
  unfold fwdv
  split
  · exact nn_mk (fun j _ => dft_nonneg _ _ _ _ _) j
  · exact Int.le_refl 0
theorem invv_turn {k : Int} {S : Nat} (xs ys : List Int) (hx : xs.length = S) (hy : ys.length = S) (h : amiss k S = 0) : invv k (mk S fun j => mulm k (nth (fwdv k xs) j) (nth (fwdv k ys) j)) = mk S fun t => of k (cyc S (nth xs) (nth ys) t) := by
  subst hx
  rw [← invv_prod hy h]
  congr 1
  refine mk_congr fun j hj => ?_
  have e : fwdv k ys = mk xs.length (dft k xs.length (nth ys) (rootm k (lgv xs.length))) := by
    rw [← hy]; exact fwdv_eq (by rw [hy]; exact h)
  rw [fwdv_eq h, e, nth_mk hj, nth_mk hj]
theorem flB_all {ps ts : List Int} (hu : U64 ps) (hv : U64 ts) (h : greatest ps * greatest ts * (ps.length : Int) ≤ 18446744073709551615) {sums each NB : Nat} (hs : sums = ts.length - ps.length + 1) (h1 : ∀ q, q < NB → q * each < sums) (h2 : sums ≤ NB * each) {xs : List (BI NB)} (hx : xs.map (fun x => x.1) = List.range NB) :
    flB ps ts sums each xs = slidev (nth ps) (nth ts) ps.length ts.length := by
  have e : flB ps ts sums each xs = (xs.map (fun x => x.1)).flatMap fun q => mk (manyv sums each q) fun i => sl (nth ps) (nth ts) ps.length (q * each + i) := by
    unfold flB; rw [List.flatMap_map]
  rw [e, hx, flat_range (fun i => sl (nth ps) (nth ts) ps.length i) NB h1, show min sums (NB * each) = sums by omega, hs]
  unfold slidev
  exact mk_congr fun i _ => by have := sl_bd hu hv h i; omega
theorem turnedv_nn {ps : List Int} (hu : U64 ps) (S : Nat) : NN (turnedv ps S) := nn_mk fun j _ => by unfold turnTo; split; exact (hu _).1; exact Int.le_refl 0
theorem fwdv_length {k : Int} {xs : List Int} (h : amiss k xs.length = 0) : (fwdv k xs).length = xs.length := by rw [fwdv_eq h, mk_length]
set_option maxRecDepth 100000 in
set_option maxHeartbeats 8000000 in
theorem correlate_good (A B : Option Addr) (ca cb : Nat) (ps ts : List Int) (size : Int) (hu : U64 ps) (hv : U64 ts) (hlx : ps.length ≤ 10000000000000) (hly : ts.length ≤ 1000000000000) (hcb : ts.length ≤ cb) (hgood : bgood ps ts size) (w : World) (hr : Rd .u64 w A ps) (hs : Rd .u64 w B ts) : Calls Tryz.prog 57 #[.slice A ps.length ca, .slice B ts.length cb, .int .i64 size] w (Ans3 (bval ps ts size) (bcnt ps ts size) (berrv ps ts size) w) := by
  have hm := hr.1
  have hm2 := hs.1
  have C := fun w1 (a : Rd .u64 w1 A ps) (b : Rd .u64 w1 B ts) => check_c5 A B ca cb ps ts size hu hv (by omega) (by omega) w1 a b
  have CS := fun w => slides_c ps.length ts.length w
  rw [hgood.2] at CS
  rw [show berr ps.length ts.length size (greatest ps) (greatest ts) = berrv ps ts size from rfl, hgood.1] at C
  rw [hgood.1]
  obtain ⟨hval, hcnt⟩ := bval_good hgood
  obtain ⟨hszb, hm1, hmn, hxy, hxym⟩ := berr_zero (greatest_bd hu).1 (greatest_bd hv).1 (show berr ps.length ts.length size (greatest ps) (greatest ts) = 0 from hgood.1) hgood.2
  obtain ⟨_, hS4, hmS⟩ := szb_bd hszb
  have hlog : hasLog size = true := by unfold szb at hszb; rw [Bool.and_eq_true] at hszb; exact hszb.1
  obtain ⟨hL, hsize⟩ := log_some hlog
  obtain ⟨S, hS⟩ : ∃ S, S = 2 ^ lgv size := ⟨_, rfl⟩
  have hsS : size = (S : Int) := by rw [hS]; exact hsize
  have hS0 : 0 < S := by rw [hS]; exact Nat.two_pow_pos _
  have hS4' : S ≤ 4096 := by omega
  have hmS' : ps.length ≤ S := by omega
  have ham : ∀ k, pr k ≠ 0 → amiss k S = 0 := fun k hk => by rw [hS]; exact amiss_pow hk hL
  have CN := fun w => count_c ps.length ts.length size w
  rw [← hcnt] at CN
  have TU := fun w1 a => turned_c A ca S ps (by omega) hS0 (by omega) w1 a
  have htl : (turnedv ps S).length = S := mk_length _ _
  have FT : ∀ k (hk : pr k ≠ 0) X c w1 (a : Rd .u64 w1 X (turnedv ps S)), _ := fun k hk X c w1 a => forward_c k X c (turnedv ps S) (turnedv_nn hu S) w1 a
  have hfl : ∀ k (hk : pr k ≠ 0), (fwdv k (turnedv ps S)).length = S := fun k hk => by rw [fwdv_length (by rw [htl]; exact ham k hk), htl]
  rw [htl] at FT
  have FT : ∀ k (hk : pr k ≠ 0) X c w1 (a : Rd .u64 w1 X (turnedv ps S)), Calls Tryz.prog 99 #[.int .i64 k, .slice X S c] w1 fun e w' => ∃ v, e = .returned (.tuple #[v, .int .i64 0]) ∧ Own .u64 108 w1.heap.size w' v (fwdv k (turnedv ps S)) ∧ Kept w1 w' := fun k hk X c w1 a => by
    have := FT k hk X c w1 a
    rw [ham k hk] at this
    exact this
  generalize bcnt ps ts size = bc at *
  generalize bval ps ts size = bv at *
  rw [hsS] at CN C ⊢
  have HVAL := Lib.hid hval
  clear hval hcnt hszb hlog hL hsize hgood hS4 hS
  have HAM := Lib.hid ham
  clear hmS hsS ham hxy
  have HTL := Lib.hid htl
  have HFL := Lib.hid hfl
  have HXY := Lib.hid hxym
  clear htl hfl hxym
  have GOAL : True := trivial
  generalize hla : ps.length = m at *
  have HLA := Lib.hid hla
  clear hla
  generalize hlb : ts.length = n at *
  have HLB := Lib.hid hlb
  clear hlb
  refine (callsIn_wide (n := 5)).1 ?_
  refine callsIn_of_wp_marks Tryz.func57 rfl trivial ?_ rfl
  refine (wpIn_wide (n := 5)).2 ?_
  simp only [Tryz.ntmps57, List.size_toArray, List.length_cons, List.length_nil, Nat.reduceAdd, Nat.reduceSub, Array.replicate_succ, Array.replicate_zero, List.push_toArray, List.append_toArray, List.nil_append, List.cons_append]
  go_wp2_with fail
  have hT := blk_alloc (blk_new w (.cells #[.slice B n cb] 123)) (.cells #[.int .i64 (S : Int)] 3)
  have hZ := blk_new1 w (.cells #[.slice B n cb] 123) (.cells #[.int .i64 (S : Int)] 3)
  have kw := kept_alloc (kept_alloc (kept_refl w) (.cells #[.slice B n cb] 123)) (.cells #[.int .i64 (S : Int)] 3)
  have hsz : ((w.alloc (.cells #[.slice B n cb] 123)).alloc (.cells #[.int .i64 (S : Int)] 3)).heap.size = w.heap.size + 2 := by simp
  generalize (w.alloc (.cells #[.slice B n cb] 123)).alloc (.cells #[.int .i64 (S : Int)] 3) = w0 at *
  have t1 : w0.cell? ⟨w.heap.size, 0, none⟩ = some (.slice B n cb) := blk_cell hT 0
  have t2 : w0.drew.cell? ⟨w.heap.size, 0, none⟩ = some (.slice B n cb) := t1
  have t3 : (w0.alloc (.cells #[.int .i64 0] 3)).cell? ⟨w.heap.size, 0, none⟩ = some (.slice B n cb) := kept_cell (kept_alloc (kept_refl _) _) t1
  have t4 : (w0.alloc (.cells #[.int .i64 0] 3)).drew.cell? ⟨w.heap.size, 0, none⟩ = some (.slice B n cb) := t3
  have t5 : (w0.drew.alloc (.cells #[.int .i64 0] 3)).cell? ⟨w.heap.size, 0, none⟩ = some (.slice B n cb) := t3
  go_big_region
  clear t1 t2 t3 t4 t5
  have hN0 : (w0.alloc (.cells #[.int .i64 n] 3)).heap[w.heap.size + 2]? = some (.cells #[.int .i64 n] 3) := by rw [← hsz]; exact blk_new w0 _
  have hN : (w0.alloc (.cells #[.int .i64 n] 3)).drew.heap[w.heap.size + 2]? = some (.cells #[.int .i64 n] 3) := hN0
  replace hT : (w0.alloc (.cells #[.int .i64 n] 3)).drew.heap[w.heap.size]? = some (.cells #[.slice B n cb] 123) := blk_alloc hT (.cells #[.int .i64 n] 3)
  replace hZ : (w0.alloc (.cells #[.int .i64 n] 3)).drew.heap[w.heap.size + 1]? = some (.cells #[.int .i64 (S : Int)] 3) := blk_alloc hZ (.cells #[.int .i64 n] 3)
  replace kw := kept_drew (kept_alloc kw (.cells #[.int .i64 n] 3))
  have hsz1 : w.heap.size + 3 ≤ (w0.alloc (.cells #[.int .i64 n] 3)).drew.heap.size := by
    have : (w0.alloc (.cells #[.int .i64 n] 3)).drew.heap.size = w0.heap.size + 1 := by show (w0.alloc _).heap.size = _; simp
    omega
  generalize (w0.alloc (.cells #[.int .i64 n] 3)).drew = w1 at *
  clear hN0 hsz
  have c1 := blk_cell hT 0
  have c2 := blk_cell hZ 0
  have c3 := blk_cell hN 0
  have C := C w1 (hr.kept kw) (hs.kept kw)
  go_wp2_with fail
  refine C.mono ?_
  rintro e w2 ⟨rfl, hk2⟩
  clear C c1 c2 c3
  replace hT := blk_kept hk2 hT
  replace hZ := blk_kept hk2 hZ
  replace hN := blk_kept hk2 hN
  replace kw := kept_trans kw hk2
  replace hsz1 := Nat.le_trans hsz1 hk2.size
  clear hk2
  have c1 := blk_cell hT 0
  have c2 := blk_cell hZ 0
  have c3 := blk_cell hN 0
  go_wp2_with fail
  refine (CS _).mono ?_
  rintro e w3 ⟨rfl, hk3⟩
  clear c1 c2 c3 CS
  replace hT := blk_kept hk3 hT
  replace hZ := blk_kept hk3 hZ
  replace hN := blk_kept hk3 hN
  replace kw := kept_trans kw hk3
  replace hsz1 := Nat.le_trans hsz1 hk3.size
  clear hk3
  have hT2 := blk_alloc hT (.cells #[.slice none 0 0, .slice none 0 0, .slice none 0 0] 158)
  have hZ2 := blk_alloc hZ (.cells #[.slice none 0 0, .slice none 0 0, .slice none 0 0] 158)
  have hN2 := blk_alloc hN (.cells #[.slice none 0 0, .slice none 0 0, .slice none 0 0] 158)
  have hb0 := blk_new w3 (.cells #[.slice none 0 0, .slice none 0 0, .slice none 0 0] 158)
  have kw2 := kept_alloc kw (.cells #[.slice none 0 0, .slice none 0 0, .slice none 0 0] 158)
  have hsz0 : w3.heap.size + 1 ≤ (w3.alloc (.cells #[.slice none 0 0, .slice none 0 0, .slice none 0 0] 158)).heap.size := by simp
  go_wp2_with fail
  generalize w3.alloc (.cells #[.slice none 0 0, .slice none 0 0, .slice none 0 0] 158) = wz at *
  clear hT hZ hN kw
  have hT := hT2
  have hZ := hZ2
  have hN := hN2
  have hb := hb0
  have kw := kw2
  have hsz := hsz0
  clear hT2 hZ2 hN2 hb0 kw2 hsz0
  generalize hB : w3.heap.size = bs at *
  generalize hg : w.heap.size = g at *
  refine wp_loop_rounds 4 ?_
  rw [rounds_succ]
  have cz := blk_cell hZ 0
  go_wp2_with fail
  refine (TU _ (hr.kept kw)).mono ?_
  rintro e wa0 ⟨vt, rfl, ot, hka⟩
  clear cz
  replace hT := blk_kept hka hT
  replace hZ := blk_kept hka hZ
  replace hN := blk_kept hka hN
  replace hb := blk_kept hka hb
  replace kw := kept_trans kw hka
  replace hsz := Nat.le_trans hsz hka.size
  obtain ⟨At, ct, rfl, _, _, rt⟩ := ot.rd
  rw [HTL.out]
  clear ot hka
  go_wp2_with fail
  refine (FT 0 (by decide) At ct _ rt).mono ?_
  rintro e wb0 ⟨vk, rfl, o0, hkb⟩
  replace o0 := o0.less hsz
  replace hT := blk_kept hkb hT
  replace hZ := blk_kept hkb hZ
  replace hN := blk_kept hkb hN
  replace hb := blk_kept hkb hb
  replace kw := kept_trans kw hkb
  replace hsz := Nat.le_trans hsz hkb.size
  obtain ⟨A0, c0, rfl⟩ := o0.form
  rw [HFL.out 0 (by decide)]
  clear rt hkb
  have D0 : wb0.cell? ⟨bs, 0, none⟩ = some (.slice none 0 0) := blk_cell hb 0
  have F0 := blk_frozen hb 0
  have hb2 := blk_set hb 0 (.slice A0 S c0)
  have hT2 := blk_far hT (p := ⟨bs, 0, none⟩) (by simp; omega) (.slice A0 S c0)
  have hZ2 := blk_far hZ (p := ⟨bs, 0, none⟩) (by simp; omega) (.slice A0 S c0)
  have hN2 := blk_far hN (p := ⟨bs, 0, none⟩) (by simp; omega) (.slice A0 S c0)
  have kw2 := kept_set kw (p := ⟨bs, 0, none⟩) (by show w.heap.size ≤ bs; omega) (.slice A0 S c0)
  have hsz2 : bs + 1 ≤ (wb0.setCell ⟨bs, 0, none⟩ (.slice A0 S c0)).heap.size := by simpa using hsz
  have oo0 : Own .u64 108 (bs + 1) (wb0.setCell ⟨bs, 0, none⟩ (.slice A0 S c0)) _ _ := own_set o0 (p := ⟨bs, 0, none⟩) (Nat.lt_succ_self _) (.slice A0 S c0)
  clear hb hT hZ hN kw hsz o0
  go_wp2_with fail
  generalize wb0.setCell ⟨bs, 0, none⟩ (.slice A0 S c0) = wd0 at *
  have hb : wd0.heap[bs]? = some (.cells #[.slice A0 S c0, .slice none 0 0, .slice none 0 0] 158 (0, 0)) := hb2
  have hT := hT2
  have hZ := hZ2
  have hN := hN2
  have kw := kw2
  have hsz := hsz2
  clear hb2 hT2 hZ2 hN2 kw2 hsz2 D0 F0
  have o0 := oo0
  clear oo0
  rw [rounds_succ]
  have cz := blk_cell hZ 0
  go_wp2_with fail
  refine (TU _ (hr.kept kw)).mono ?_
  rintro e wa1 ⟨vt, rfl, ot, hka⟩
  clear cz
  replace hT := blk_kept hka hT
  replace hZ := blk_kept hka hZ
  replace hN := blk_kept hka hN
  replace hb := blk_kept hka hb
  replace kw := kept_trans kw hka
  replace hsz := Nat.le_trans hsz hka.size
  replace o0 := o0.kept hka
  obtain ⟨At, ct, rfl, _, _, rt⟩ := ot.rd
  rw [HTL.out]
  clear ot hka
  go_wp2_with fail
  refine (FT 1 (by decide) At ct _ rt).mono ?_
  rintro e wb1 ⟨vk, rfl, o1, hkb⟩
  replace o1 := o1.less hsz
  replace hT := blk_kept hkb hT
  replace hZ := blk_kept hkb hZ
  replace hN := blk_kept hkb hN
  replace hb := blk_kept hkb hb
  replace kw := kept_trans kw hkb
  replace hsz := Nat.le_trans hsz hkb.size
  replace o0 := o0.kept hkb
  obtain ⟨A1, c1, rfl⟩ := o1.form
  rw [HFL.out 1 (by decide)]
  clear rt hkb
  have D0 : wb1.cell? ⟨bs, 1, none⟩ = some (.slice none 0 0) := blk_cell hb 1
  have F0 := blk_frozen hb 1
  have hb2 := blk_set hb 1 (.slice A1 S c1)
  have hT2 := blk_far hT (p := ⟨bs, 1, none⟩) (by simp; omega) (.slice A1 S c1)
  have hZ2 := blk_far hZ (p := ⟨bs, 1, none⟩) (by simp; omega) (.slice A1 S c1)
  have hN2 := blk_far hN (p := ⟨bs, 1, none⟩) (by simp; omega) (.slice A1 S c1)
  have kw2 := kept_set kw (p := ⟨bs, 1, none⟩) (by show w.heap.size ≤ bs; omega) (.slice A1 S c1)
  have hsz2 : bs + 1 ≤ (wb1.setCell ⟨bs, 1, none⟩ (.slice A1 S c1)).heap.size := by simpa using hsz
  have oo0 : Own .u64 108 (bs + 1) (wb1.setCell ⟨bs, 1, none⟩ (.slice A1 S c1)) _ _ := own_set o0 (p := ⟨bs, 1, none⟩) (Nat.lt_succ_self _) (.slice A1 S c1)
  have oo1 : Own .u64 108 (bs + 1) (wb1.setCell ⟨bs, 1, none⟩ (.slice A1 S c1)) _ _ := own_set o1 (p := ⟨bs, 1, none⟩) (Nat.lt_succ_self _) (.slice A1 S c1)
  clear hb hT hZ hN kw hsz o0 o1
  go_wp2_with fail
  generalize wb1.setCell ⟨bs, 1, none⟩ (.slice A1 S c1) = wd1 at *
  have hb : wd1.heap[bs]? = some (.cells #[.slice A0 S c0, .slice A1 S c1, .slice none 0 0] 158 (0, 0)) := hb2
  have hT := hT2
  have hZ := hZ2
  have hN := hN2
  have kw := kw2
  have hsz := hsz2
  clear hb2 hT2 hZ2 hN2 kw2 hsz2 D0 F0
  have o0 := oo0
  clear oo0
  have o1 := oo1
  clear oo1
  rw [rounds_succ]
  have cz := blk_cell hZ 0
  go_wp2_with fail
  refine (TU _ (hr.kept kw)).mono ?_
  rintro e wa2 ⟨vt, rfl, ot, hka⟩
  clear cz
  replace hT := blk_kept hka hT
  replace hZ := blk_kept hka hZ
  replace hN := blk_kept hka hN
  replace hb := blk_kept hka hb
  replace kw := kept_trans kw hka
  replace hsz := Nat.le_trans hsz hka.size
  replace o0 := o0.kept hka
  replace o1 := o1.kept hka
  obtain ⟨At, ct, rfl, _, _, rt⟩ := ot.rd
  rw [HTL.out]
  clear ot hka
  go_wp2_with fail
  refine (FT 2 (by decide) At ct _ rt).mono ?_
  rintro e wb2 ⟨vk, rfl, o2, hkb⟩
  replace o2 := o2.less hsz
  replace hT := blk_kept hkb hT
  replace hZ := blk_kept hkb hZ
  replace hN := blk_kept hkb hN
  replace hb := blk_kept hkb hb
  replace kw := kept_trans kw hkb
  replace hsz := Nat.le_trans hsz hkb.size
  replace o0 := o0.kept hkb
  replace o1 := o1.kept hkb
  obtain ⟨A2, c2, rfl⟩ := o2.form
  rw [HFL.out 2 (by decide)]
  clear rt hkb
  have D0 : wb2.cell? ⟨bs, 2, none⟩ = some (.slice none 0 0) := blk_cell hb 2
  have F0 := blk_frozen hb 2
  have hb2 := blk_set hb 2 (.slice A2 S c2)
  have hT2 := blk_far hT (p := ⟨bs, 2, none⟩) (by simp; omega) (.slice A2 S c2)
  have hZ2 := blk_far hZ (p := ⟨bs, 2, none⟩) (by simp; omega) (.slice A2 S c2)
  have hN2 := blk_far hN (p := ⟨bs, 2, none⟩) (by simp; omega) (.slice A2 S c2)
  have kw2 := kept_set kw (p := ⟨bs, 2, none⟩) (by show w.heap.size ≤ bs; omega) (.slice A2 S c2)
  have hsz2 : bs + 1 ≤ (wb2.setCell ⟨bs, 2, none⟩ (.slice A2 S c2)).heap.size := by simpa using hsz
  have oo0 : Own .u64 108 (bs + 1) (wb2.setCell ⟨bs, 2, none⟩ (.slice A2 S c2)) _ _ := own_set o0 (p := ⟨bs, 2, none⟩) (Nat.lt_succ_self _) (.slice A2 S c2)
  have oo1 : Own .u64 108 (bs + 1) (wb2.setCell ⟨bs, 2, none⟩ (.slice A2 S c2)) _ _ := own_set o1 (p := ⟨bs, 2, none⟩) (Nat.lt_succ_self _) (.slice A2 S c2)
  have oo2 : Own .u64 108 (bs + 1) (wb2.setCell ⟨bs, 2, none⟩ (.slice A2 S c2)) _ _ := own_set o2 (p := ⟨bs, 2, none⟩) (Nat.lt_succ_self _) (.slice A2 S c2)
  clear hb hT hZ hN kw hsz o0 o1 o2
  go_wp2_with fail
  generalize wb2.setCell ⟨bs, 2, none⟩ (.slice A2 S c2) = wd2 at *
  have hb : wd2.heap[bs]? = some (.cells #[.slice A0 S c0, .slice A1 S c1, .slice A2 S c2] 158 (0, 0)) := hb2
  have hT := hT2
  have hZ := hZ2
  have hN := hN2
  have kw := kw2
  have hsz := hsz2
  clear hb2 hT2 hZ2 hN2 kw2 hsz2 D0 F0
  have o0 := oo0
  clear oo0
  have o1 := oo1
  clear oo1
  have o2 := oo2
  clear oo2
  rw [rounds_succ]
  have hT2 := blk_alloc hT (.cells #[.slice none 0 0] 123)
  have hZ2 := blk_alloc hZ (.cells #[.slice none 0 0] 123)
  have hN2 := blk_alloc hN (.cells #[.slice none 0 0] 123)
  have ho2 := blk_new wd2 (.cells #[.slice none 0 0] 123)
  have ko := kept_alloc (kept_refl wd2) (.cells #[.slice none 0 0] 123)
  have hso : (wd2.alloc (.cells #[.slice none 0 0] 123)).heap.size = wd2.heap.size + 1 := by simp
  have e1 := blk_cell hN2 0
  have e2 := blk_cell hZ2 0
  have hd1 : (n : Int) - (m : Int) + 1 = ((n - m + 1 : Nat) : Int) := by omega
  have hd2 : (S : Int) - (m : Int) + 1 = ((S - m + 1 : Nat) : Int) := by omega
  have HT := Lib.hid hT
  have HZ := Lib.hid hZ
  have HN := Lib.hid hN
  have HB := Lib.hid hb
  clear hT hZ hN hb
  obtain ⟨_, _, z0, _, _, r0⟩ := o0.rd
  obtain ⟨_, _, z1, _, _, r1⟩ := o1.rd
  obtain ⟨_, _, z2, _, _, r2⟩ := o2.rd
  simp only [Value.slice.injEq] at z0 z1 z2
  rw [← z0.1] at r0
  rw [← z1.1] at r1
  rw [← z2.1] at r2
  clear z0 z1 z2 o0 o1 o2
  go_wp2_with fail
  generalize wd2.alloc (.cells #[.slice none 0 0] 123) = wo at *
  clear e1 e2 hT2 hZ2 hN2
  refine (blocks_c _ _ _).mono ?_
  rintro e wp ⟨rfl, q1, q2, q3, hkp⟩
  have hd3 : (((n - m : Nat) : Int) + 1) = ((n - m + 1 : Nat) : Int) := by omega
  have hd4 : (((S - m : Nat) : Int) + 1) = ((S - m + 1 : Nat) : Int) := by omega
  rw [hd3] at q1
  rw [hd4] at q2
  have hop := blk_kept hkp ho2
  have kp := kept_trans ko hkp
  clear ho2 ko hd1 hd2 hd3 hd4 FT TU C
  generalize hbo : wd2.heap.size = bo at *
  generalize hBo : wo.heap.size = B1 at *
  have HSO := Lib.hid hso
  have HQ3 := Lib.hid q3
  clear hso hBo
  have hsums : 0 < n - m + 1 := by omega
  have heach : 0 < S - m + 1 := by omega
  obtain ⟨hNB1, hNB2⟩ := blocks_all hsums heach
  obtain ⟨sums, hsu⟩ : ∃ s, s = n - m + 1 := ⟨_, rfl⟩
  obtain ⟨each, hea⟩ : ∃ s, s = S - m + 1 := ⟨_, rfl⟩
  obtain ⟨NB, hnb⟩ : ∃ s, s = (n - m + 1 - 1) / (S - m + 1) + 1 := ⟨_, rfl⟩
  have hNB3 := blocks_top (n - m + 1) (S - m + 1)
  rw [← hnb, ← hsu, ← hea] at hNB1 hNB2 hNB3
  rw [← hsu] at q1
  rw [← hea] at q2
  have HSU := Lib.hid hsu
  have HEA := Lib.hid hea
  have hse : each ≤ 4096 := by omega
  have hsl : sums ≤ 1099511627776 := by omega
  clear hnb hsu hea q3
  go_wp2_with fail
  have hso := HSO.out
  have q3 := HQ3.out
  refine (wpIn_wide (n := 5)).1 ?_
  have hIown : OwnFrom wp.heap.size (fun (pre : List (BI NB)) (W : World) => (∃ v, W.heap[bo]? = some (.cells #[v] 123 (0, 0)) ∧ W.ownsRow wp.heap.size 108 1 v (flB ps ts sums each pre).length ((flB ps ts sums each pre).map (Value.int .u64))) ∧ Kept wd2 W ∧ wp.heap.size ≤ W.heap.size) := by
    rintro s W W' row ⟨⟨v, h1, h2⟩, h3, h4⟩ hg hr
    refine ⟨⟨v, (hg.block bo (by omega) (fun e => by have := (hr bo e.symm).1; omega)).trans h1, h2.kept hg ?_⟩, h3.grown hg (by omega) (fun k e => by have := (hr k e).1; omega), by have := hg.size; omega⟩
    rcases h2.2 with ⟨rfl, _⟩ | ⟨g', cap, cur, rfl, _, hgb, _⟩
    · exact .inl rfl
    · refine .inr fun e' => ?_
      obtain ⟨_, o, ho, hc⟩ := hr g' (by simpa [Value.ownBlock] using e'.symm)
      rw [hgb] at ho; cases ho; cases hc
  refine wpIn_rangeFunc_ownF rfl (by decide) (gf := 159) (lb := #[.pointer (some ⟨B1, 0, none⟩), .pointer (some ⟨B1 + 1, 0, none⟩)]) rfl trivial (enters_of Tryz.func159 (by kernel_rfl) rfl) (blocks_stops (5 - 1) B1 (B1 + 1) sums each NB (by decide) hsl hse hNB1 hNB2 wp (by omega) (by omega) q1 q2) kpB_t (kpB_b (by omega) (by omega)) (Below.refl _ _) (fun _ => rfl) _ (fun _ _ _ => False) hIown (fun _ _ _ _ _ hs _ _ => hs) ⟨⟨_, hop, World.ownsRow_nil _ _ _ _⟩, kp, Nat.le_refl _⟩ ?a1 ?assign ?body ?done ?stop
  case assign =>
    intro l x W K hK
    unfold bencs
    gi_wp2
    exact hK
  case stop =>
    rintro D c pre W _ _ h _
    exact h.elim
  case done =>
    rintro D xs W hD hxs ⟨⟨v, hb, ho⟩, hk, hsW⟩ hdf
    have hfl := flB_all hu hv (by rw [HLA.out]; exact HXY.out) (by rw [HLA.out, HLB.out]; exact HSU.out) hNB1 hNB2 hxs
    rw [HLA.out, HLB.out, ← HVAL.out] at hfl
    rw [hfl] at ho
    have c1 := blk_cell (blk_kept hk HN.out) 0
    have c2 := blk_cell (blk_kept hk HZ.out) 0
    have c3 := blk_cell hb 0
    clear hfl hxs
    go_wp2_with fail
    have ks_1 := fun s => kw_cell s c1
    have ks_2 := fun s => kw_cell s c2
    have ks_3 := fun s => kw_cell s c3
    refine wp_region_kept (by kernel_rfl) (by kernel_rfl) ?_
    repeat (first | go_big_quiet_skip | (go_big_quiet_want; go_big_quiet_op; first | go_big_quiet_on | (apply Exists.intro; refine ⟨fun s => ?_, ?_⟩; (first | (go_at_call 106; exact call_kept (CN _))); go_big_quiet_on)))
    refine wpQuiet_nil ?_
    rintro w8 ⟨⟨_, hk8⟩, rfl⟩
    clear ks_1 ks_2 ks_3 c1 c2 c3
    have ho8 := ownsRow_putObj (rowKept ho hk8) (.deferred none) (blk_kept hk8 hdf) rfl
    have hw8 : Kept w (World.putObj _ D (.deferred none)) := belowK_t (kept_trans kw (kept_trans hk hk8)) (belowK_b (w := w) (Nat.le_refl _) _ D _ (.deferred none) (by omega) (blk_kept hk8 hdf) rfl rfl)
    obtain ⟨AR, cR, rfl, lR, uR, rR⟩ := Own.rd (k := .u64) (xs := bv) ho8
    go_wp2_with fail
    refine ⟨by simp, .inl ⟨_, _, rfl, run_takeDeferred (blk_kept hk8 hdf), ?_⟩⟩
    exact ⟨.tuple #[.slice AR bv.length cR, .int .i64 bc, .int .i64 0], by simp [results, Tryz.results57, go_sem], AR, cR, rfl, rR, hw8, lR, by omega, (show Own .u64 108 wp.heap.size _ (.slice AR bv.length cR) bv from ho8).less (Nat.le_trans kw.size kp.size)⟩
  case body =>
    rintro l pre ⟨q, hq⟩ W ⟨⟨v, hb, ho⟩, hk, hsW⟩ hlen
    have hat := hNB1 q hq
    have hSU := HSU.out
    have hEA := HEA.out
    have hM1 : 0 < manyv sums each q := by unfold manyv; omega
    have hM2 : manyv sums each q ≤ each := by unfold manyv; omega
    have hM3 : q * each + manyv sums each q ≤ sums := by unfold manyv; omega
    have hFL := flB_len ps ts sums each pre
    have hFE : pre.length * each + each ≤ NB * each := by
      have := Nat.mul_le_mul_right each (show pre.length + 1 ≤ NB from hlen)
      rwa [Nat.succ_mul] at this
    have hroom : (flB ps ts sums each pre).length + manyv sums each q ≤ 2000000000000 := by omega
    have hca : ¬ cb = q * each := by omega
    have hsn := flB_snoc ps ts sums each pre ⟨q, hq⟩
    obtain ⟨L, hL⟩ : ∃ L, L = min (n - q * each) S := ⟨_, rfl⟩
    have hLS : L ≤ S := by omega
    have hLn : q * each + L ≤ n := by omega
    have hLm : manyv sums each q + m ≤ L + 1 := by
      have : manyv sums each q ≤ sums - q * each := by unfold manyv; omega
      omega
    have hmin : min (n : Int) (((q * each : Nat) : Int) + (S : Int)) = ((q * each + L : Nat) : Int) := by omega
    have hsb := sl_bd hu hv (by rw [HLA.out]; exact HXY.out)
    obtain ⟨bd, rfl, _⟩ := hs.at_ (j := 0) (by rw [HLB.out]; omega)
    dsimp only at hsn ⊢
    rw [show (q : Int) * (each : Int) = ((q * each : Nat) : Int) from (Int.natCast_mul q each).symm]
    have hMS : manyv sums each q ≤ S := by omega
    have hfit := fun i (hi : i < manyv sums each q) => blk_sums (S := S) (i := i) (at_ := q * each) (L := L) ps ts (by rw [HLA.out]; omega) (by rw [HLA.out]; omega) (by rw [HLA.out]; omega) hLS
    have hpl := partv_length ts (q * each) L
    have hpu := u64_part hv (q * each) L
    have hsub : ∀ w1, Rd .u64 w1 (some bd) ts → Rd .u64 w1 (some (bd.add (q * each))) (partv ts (q * each) L) := fun w1 h => h.sub (q * each) (by rw [hpl, HLB.out]; exact hLn) fun j hj => by unfold partv; rw [hpl] at hj; exact nth_mk hj
    have WD := fun A c w1 (h : Rd .u64 w1 A (partv ts (q * each) L)) => wide_c A c S (partv ts (q * each) L) (by rw [hpl]; exact hLS) hS4' w1 h
    rw [hpl] at WD
    have hwl := widev_length (partv ts (q * each) L) S
    have hwn := widev_nn hpu S
    generalize partv ts (q * each) L = pv at *
    generalize widev pv S = wv at *
    have FW : ∀ k (hk : pr k ≠ 0) X c w1 (a : Rd .u64 w1 X wv), Calls Tryz.prog 99 #[.int .i64 k, .slice X S c] w1 fun e w' => ∃ v, e = .returned (.tuple #[v, .int .i64 0]) ∧ Own .u64 108 w1.heap.size w' v (fwdv k wv) ∧ Kept w1 w' := fun k hk X c w1 a => by
      have := forward_c k X c wv hwn w1 a
      rwa [hwl, HAM.out k hk] at this
    have hwf : ∀ k (hk : pr k ≠ 0), (fwdv k wv).length = S := fun k hk => by rw [fwdv_length (by rw [hwl]; exact HAM.out k hk), hwl]
    have hinv := fun k (hk : pr k ≠ 0) => invv_turn wv (turnedv ps S) hwl HTL.out (HAM.out k hk)
    obtain ⟨cy, hcy⟩ : ∃ cy : Int → Nat → Int, cy = fun k t => of k (cyc S (nth wv) (nth (turnedv ps S)) t) := ⟨_, rfl⟩
    have IV : ∀ k (hk : pr k ≠ 0) X c w1 (a : Rd .u64 w1 X (mk S fun j => mulm k (nth (fwdv k wv) j) (nth (fwdv k (turnedv ps S)) j))), Calls Tryz.prog 104 #[.int .i64 k, .slice X S c] w1 fun e w' => ∃ v, e = .returned (.tuple #[v, .int .i64 0]) ∧ Own .u64 108 w1.heap.size w' v (mk S (cy k)) ∧ Kept w1 w' := fun k hk X c w1 a => by
      have := inverse_c k X c _ (nn_mk fun j _ => (mulm_bd _ _ _).1) w1 a
      rw [mk_length, HAM.out k hk, hinv k hk] at this
      rwa [hcy]
    have hlf : ∀ k (hk : pr k ≠ 0), (fwdv k (turnedv ps S)).length = S := HFL.out
    have hf1 : ∀ k j, 0 ≤ nth (fwdv k wv) j ∧ 0 ≤ nth (fwdv k (turnedv ps S)) j := fun k j => ⟨fwdv_nonneg k wv j, fwdv_nonneg k (turnedv ps S) j⟩
    obtain ⟨fB, hfB⟩ : ∃ fB : Nat → Int, fB = fun i => sl (nth ps) (nth ts) ps.length (q * each + i) := ⟨_, rfl⟩
    have hfit2 : ∀ k i, i < manyv sums each q → cy k i = of k (fB i) := fun k i hi => by rw [hcy, hfB]; dsimp only; rw [hfit i hi]
    have hfb : ∀ i, 0 ≤ fB i ∧ fB i ≤ 18446744073709551615 := fun i => by rw [hfB]; exact hsb _
    rw [← hfB] at hsn
    obtain ⟨tv, htv⟩ : ∃ tv, tv = turnedv ps S := ⟨_, rfl⟩
    rw [← htv] at r0 r1 r2 IV hlf hf1
    obtain ⟨fl, hfl⟩ : ∃ fl, fl = flB ps ts sums each pre := ⟨_, rfl⟩
    rw [← hfl] at ho hroom hsn
    have HS1 := Lib.hid hsn
    have HF2 := Lib.hid hfit2
    have HFB := Lib.hid hfb
    have HWF := Lib.hid hwf
    have HLF := Lib.hid hlf
    have HF1 := Lib.hid hf1
    generalize q * each = a at *
    generalize manyv sums each q = M at *
    have fT := blk_kept hk HT.out
    have fZ := blk_kept hk HZ.out
    have fN := blk_kept hk HN.out
    have fSl := blk_kept hk HB.out
    replace r0 := r0.kept hk
    replace r1 := r1.kept hk
    replace r2 := r2.kept hk
    have rt := hs.kept (kept_trans kw hk)
    have hgb : g < bs := by omega
    have hbb : bs < bo := by omega
    have hq3 : bo + 3 ≤ W.heap.size := by have := HQ3.out; omega
    rename_i zz0 zz1 zz2 zz3 zz4 zz5 zz6 zz7 zz8 zz9 zz10 zz11 zz12 zz13 zz14 zz15 zz16 zz17 zz18 zz19 zz20 zz21 zz22 zz23 zz24 zz25 zz26 zz27
    clear HVAL HT HZ HN HB HSU HEA HXY HLA HLB HAM HTL HFL hlen hFL hFE hL hLm hSU hEA hat hM2 hM3 hsn hfit hpl hpu hwn hwf hinv hcy hlf hf1 hfB hfit2 hfb htv hfl FT CN q1 q2 hIown hNB1 hNB2 hNB3 hse hsl hsums heach hop hkp hsz1 hB hm1 hmn hmS' hlx hm hu hv hr hs hsb kw q3 hso hg
    clear zz27 zz26 zz25 zz24 zz23 zz22 zz21 zz20 zz19 zz18 zz17 zz16 zz15 zz14 zz13 zz12 zz11 zz10 zz9 zz8 zz7 zz6 zz5 zz4 zz3 zz2 zz1 zz0
    have hR := blk_new W (.cells #[.slice none 0 0, .slice none 0 0, .slice none 0 0] 158)
    have kW : Kept W (W.alloc (.cells #[.slice none 0 0, .slice none 0 0, .slice none 0 0] 158)) := kept_alloc (kept_refl W) _
    have hsz : W.heap.size + 1 ≤ (W.alloc (.cells #[.slice none 0 0, .slice none 0 0, .slice none 0 0] 158)).heap.size := by simp
    gi_wp2_with fail
    generalize W.alloc (.cells #[.slice none 0 0, .slice none 0 0, .slice none 0 0] 158) = v0 at *
    generalize hrb : W.heap.size = rb at *
    refine wpIn_loop_rounds 4 ?_
    rw [roundsIn_succ]
    have d1 : v0.cell? ⟨g + 2, 0, none⟩ = some (.int .i64 (n : Nat)) := blk_cell (blk_kept kW fN) 0
    have d2 : v0.cell? ⟨g + 1, 0, none⟩ = some (.int .i64 (S : Nat)) := blk_cell (blk_kept kW fZ) 0
    have d3 : v0.cell? ⟨g, 0, none⟩ = some (.slice (some bd) n cb) := blk_cell (blk_kept kW fT) 0
    gi_wp2_with fail
    have ks_1 := fun s => kw_cell s d1
    have ks_2 := fun s => kw_cell s d2
    have ks_3 := fun s => kw_cell s d3
    refine rd_region_tail1 (.int .i64 0) 10 (by kernel_rfl) (by decide) (by kernel_rfl) (by kernel_rfl) (by rintro ⟨a, w, h⟩; exact h) (fun _ _ _ _ h => h) (.inl ⟨rfl, fun _ => rfl⟩) ?_
    simp only [List.take_succ_cons, List.take_zero, List.drop_succ_cons, List.drop_zero, Nat.reduceSub, Act.put, List.setIfInBounds_toArray, List.set_cons_succ, List.set_cons_zero]
    repeat (first | go_big_quiet_skip | (go_big_quiet_want; go_big_quiet_op; go_big_quiet_on))
    refine wpQuiet_nil ?_
    rintro vp0 ⟨⟨_, hk7⟩, rfl⟩
    clear ks_1 ks_2 ks_3 d1 d2 d3
    replace hR := blk_kept hk7 hR
    replace kW := kept_trans kW hk7
    replace hsz := Nat.le_trans hsz hk7.size
    go_wp2_with fail
    refine (WD _ _ _ (hsub _ (rt.kept kW))).mono ?_
    rintro e va0 ⟨vt, rfl, ot, hka⟩
    replace hR := blk_kept hka hR
    replace kW := kept_trans kW hka
    replace hsz := Nat.le_trans hsz hka.size
    obtain ⟨At, ct, rfl, _, _, rw⟩ := ot.rd
    rw [hwl]
    clear ot hka hk7
    go_wp2_with fail
    refine (FW 0 (by decide) At ct _ rw).mono ?_
    rintro e vb0 ⟨vk, rfl, ox, hkb⟩
    obtain ⟨gx, cx, rfl⟩ := ox.pos (by rw [HWF.out 0 (by decide)]; exact hS0)
    rw [HWF.out 0 (by decide)]
    obtain ⟨d, hd⟩ : ∃ d, d = nth (fwdv 0 wv) := ⟨_, rfl⟩
    obtain ⟨sv, hsv⟩ : ∃ sv, sv = nth (fwdv 0 tv) := ⟨_, rfl⟩
    have I := IV 0 (by decide)
    rw [← hd, ← hsv] at I
    have hdp : ∀ j, 0 ≤ d j ∧ 0 ≤ sv j := fun j => by rw [hd, hsv]; exact HF1.out 0 j
    have hownI : vb0.ownsRow va0.heap.size 108 1 (.slice (some ⟨gx, 0, none⟩) S cx) S ((mk S (timesTo 0 d sv 0)).map (Value.int .u64)) := by
      rw [timesTo_zero, hd]
      have e : mk S (nth (fwdv 0 wv)) = fwdv 0 wv := by have := mk_nth (fwdv 0 wv); rwa [HWF.out 0 (by decide)] at this
      rw [e]
      have h := ox
      unfold Own at h
      rwa [HWF.out 0 (by decide)] at h
    have hall := timesTo_all 0 d sv S
    have HSV := Lib.hid hsv
    clear ox hd rw hsv
    go_wp2_with fail
    gi_wp2_with fail
    gi_loopw [86] (fun i wq => ∃ q : Nat, q ≤ S ∧ i = .int .i64 q ∧ wq.ownsRow va0.heap.size 108 1 (.slice (some ⟨gx, 0, none⟩) S cx) S ((mk S (timesTo 0 d sv q)).map (Value.int .u64)) ∧ Kept va0 wq) (fun i _ => S - (intOf i).toNat)
    case atStart => exact ⟨0, Nat.zero_le _, rfl, hownI, hkb⟩
    clear hownI hkb
    obtain ⟨q0, hqS, rfl, hown, hkq⟩ := hrel
    rcases Nat.lt_or_ge q0 S with hlt | hge
    · have e0 := World.ownsRow.cellAt hown q0 (by omega)
      rw [List.getElem?_map, List.getElem?_eq_getElem (by rw [mk_length]; omega), Option.map_some, ← nth_lt (by rw [mk_length]; omega), nth_mk hlt, timesTo_at] at e0
      have e1 : wr.cell? ⟨bs, 0, none⟩ = some (.slice A0 S c0) := kept_cell hkq (blk_cell (blk_kept kW fSl) 0)
      obtain ⟨aj, hA, e2⟩ := (r0.kept (kept_trans kW hkq)).at_ (j := q0) (by rw [HLF.out 0 (by decide)]; exact hlt)
      subst hA
      rw [← HSV.out] at e2
      have hset := timesTo_set 0 d sv hlt
      have MU := mul_c 0 (d q0) (sv q0) (hdp q0).1 (hdp q0).2
      generalize mulm 0 (d q0) (sv q0) = y at *
      generalize d q0 = x at *
      generalize sv q0 = z at *
      have HS := Lib.hid hset
      clear hset hall fT fZ fN fSl hR rt r0 r1 r2 kW I IV FW WD hsub hmin HFB HWF HLF HF1 HS1 HF2 hdp
      gi_wp2_with fail
      have ks_e0 := fun s => kw_cell s e0
      have ks_e1 := fun s => kw_cell s e1
      have ks_e2 := fun s => kw_cell s e2
      refine rd_region_tail0 14 (by kernel_rfl) (by kernel_rfl) (by kernel_rfl) (by rintro ⟨a, w, h⟩; exact h) (fun _ _ _ _ h => h) ?_
      simp only [List.take_succ_cons, List.take_zero, List.drop_succ_cons, List.drop_zero]
      repeat (first | go_big_quiet_skip | (go_big_quiet_want; go_big_quiet_op; first | go_big_quiet_on | (apply Exists.intro; refine ⟨fun s => ?_, ?_⟩; (first | (go_at_call 103; exact call_kept (MU _))); go_big_quiet_on)))
      refine wpQuiet_nil ?_
      rintro w7 ⟨⟨_, hk7⟩, rfl⟩
      clear ks_e0 ks_e1 ks_e2 e0 e1 e2
      have hownA : w7.ownsRow va0.heap.size 108 1 (.slice (some ⟨gx, 0, none⟩) S _) S ((mk S (timesTo 0 d sv q0)).map (Value.int .u64)) := rowKept hown hk7
      have hkA := kept_trans hkq hk7
      have d0 := World.ownsRow.cellAt hownA q0 (by omega)
      rw [List.getElem?_map, List.getElem?_eq_getElem (by rw [mk_length]; omega), Option.map_some] at d0
      have f0 := World.ownsRow.frozenAt hownA q0
      have ST := World.ownsRow.stored hownA q0 (.int .u64 y)
      rw [← List.map_set, HS.out] at ST
      generalize (mk S (timesTo 0 d sv q0))[q0]'(by rw [mk_length]; omega) = old at *
      have ea : (⟨gx, 0, none⟩ : Addr).add q0 = ⟨gx, q0, none⟩ := by unfold Addr.add; split <;> simp_all
      clear hown hkq hk7
      go_wp2_with fail
      gi_wp2_with fail
      exact ⟨⟨q0 + 1, by omega, by go_num, ST.1, kept_grown hkA hownA (Nat.le_refl _) ST.2⟩, by simp [intOf]; omega⟩
    obtain rfl : S = q0 := by omega
    rw [hall] at hown
    clear hall hge hqS hdp HSV
    replace hR := blk_kept hkq hR
    replace kW := kept_trans kW hkq
    replace hsz := Nat.le_trans hsz hkq.size
    have rx : Rd .u64 wr (some ⟨gx, 0, none⟩) (mk S fun j => mulm 0 (d j) (sv j)) := by
      have hO : Own .u64 108 va0.heap.size wr (.slice (some ⟨gx, 0, none⟩) S cx) (mk S fun j => mulm 0 (d j) (sv j)) := by
        unfold Own
        rw [mk_length]
        exact hown
      obtain ⟨A', c', e, _, _, r⟩ := hO.rd
      simp only [Value.slice.injEq] at e
      rw [← e.1] at r
      exact r
    clear hown hkq
    gi_wp2_with fail
    refine ⟨trivial, (CallsIn.inRound l (callsIn_wide.2 (I (some ⟨gx, 0, none⟩) cx _ rx))).mono ?_⟩
    rintro e vi0 ⟨vv, rfl, oi, hki⟩
    have p0 := oi.less hsz
    clear oi rx I
    replace hR := blk_kept hki hR
    replace kW := kept_trans kW hki
    replace hsz := Nat.le_trans hsz hki.size
    obtain ⟨g0, t0, rfl⟩ := p0.pos (by rw [mk_length]; exact hS0)
    obtain ⟨_, _, ez, lz, _, _⟩ := p0.rd
    simp only [Value.slice.injEq] at ez
    rw [mk_length] at lz ⊢
    have hMc : M ≤ t0 := by have := ez.2.2; omega
    clear ez lz
    have D0 : vi0.cell? ⟨rb, 0, none⟩ = some (.slice none 0 0) := blk_cell hR 0
    have F0 := blk_frozen hR 0
    have hR1 := blk_set hR 0 (.slice (some ⟨g0, 0, none⟩) S t0)
    have D1 : (vi0.setCell ⟨rb, 0, none⟩ (.slice (some ⟨g0, 0, none⟩) S t0)).cell? ⟨rb, 0, none⟩ = some (.slice (some ⟨g0, 0, none⟩) S t0) := blk_cell hR1 0
    have F1 := blk_frozen hR1 0
    have hR2 := blk_set hR1 0 (.slice (some ⟨g0, 0, none⟩) M t0)
    have kW2 := kept_set (kept_set kW (p := ⟨rb, 0, none⟩) (by show W.heap.size ≤ rb; omega) (.slice (some ⟨g0, 0, none⟩) S t0)) (p := ⟨rb, 0, none⟩) (by show W.heap.size ≤ rb; omega) (.slice (some ⟨g0, 0, none⟩) M t0)
    have hsz2 : rb + 1 ≤ ((vi0.setCell ⟨rb, 0, none⟩ (.slice (some ⟨g0, 0, none⟩) S t0)).setCell ⟨rb, 0, none⟩ (.slice (some ⟨g0, 0, none⟩) M t0)).heap.size := by simpa using hsz
    have pp0 : Own .u64 108 (rb + 1) ((vi0.setCell ⟨rb, 0, none⟩ (.slice (some ⟨g0, 0, none⟩) S t0)).setCell ⟨rb, 0, none⟩ (.slice (some ⟨g0, 0, none⟩) M t0)) _ _ := own_set (own_set p0 (p := ⟨rb, 0, none⟩) (Nat.lt_succ_self _) (.slice (some ⟨g0, 0, none⟩) S t0)) (p := ⟨rb, 0, none⟩) (Nat.lt_succ_self _) (.slice (some ⟨g0, 0, none⟩) M t0)
    clear hR kW hsz hR1 p0
    gi_wp2_with fail
    generalize ((vi0.setCell ⟨rb, 0, none⟩ (.slice (some ⟨g0, 0, none⟩) S t0)).setCell ⟨rb, 0, none⟩ (.slice (some ⟨g0, 0, none⟩) M t0)) = v1 at *
    have hR : v1.heap[rb]? = some (.cells #[.slice (some ⟨g0, 0, none⟩) M t0, .slice none 0 0, .slice none 0 0] 158 (0, 0)) := hR2
    have kW := kW2
    have hsz := hsz2
    clear hR2 kW2 hsz2 D0 F0 D1 F1
    have p0 := pp0
    clear pp0
    rw [roundsIn_succ]
    have d1 : v1.cell? ⟨g + 2, 0, none⟩ = some (.int .i64 (n : Nat)) := blk_cell (blk_kept kW fN) 0
    have d2 : v1.cell? ⟨g + 1, 0, none⟩ = some (.int .i64 (S : Nat)) := blk_cell (blk_kept kW fZ) 0
    have d3 : v1.cell? ⟨g, 0, none⟩ = some (.slice (some bd) n cb) := blk_cell (blk_kept kW fT) 0
    gi_wp2_with fail
    have ks_1 := fun s => kw_cell s d1
    have ks_2 := fun s => kw_cell s d2
    have ks_3 := fun s => kw_cell s d3
    refine rd_region_tail1 (.int .i64 1) 10 (by kernel_rfl) (by decide) (by kernel_rfl) (by kernel_rfl) (by rintro ⟨a, w, h⟩; exact h) (fun _ _ _ _ h => h) (.inl ⟨rfl, fun _ => rfl⟩) ?_
    simp only [List.take_succ_cons, List.take_zero, List.drop_succ_cons, List.drop_zero, Nat.reduceSub, Act.put, List.setIfInBounds_toArray, List.set_cons_succ, List.set_cons_zero]
    repeat (first | go_big_quiet_skip | (go_big_quiet_want; go_big_quiet_op; go_big_quiet_on))
    refine wpQuiet_nil ?_
    rintro vp1 ⟨⟨_, hk7⟩, rfl⟩
    clear ks_1 ks_2 ks_3 d1 d2 d3
    replace hR := blk_kept hk7 hR
    replace kW := kept_trans kW hk7
    replace hsz := Nat.le_trans hsz hk7.size
    replace p0 := p0.kept hk7
    go_wp2_with fail
    refine (WD _ _ _ (hsub _ (rt.kept kW))).mono ?_
    rintro e va1 ⟨vt, rfl, ot, hka⟩
    replace hR := blk_kept hka hR
    replace kW := kept_trans kW hka
    replace hsz := Nat.le_trans hsz hka.size
    replace p0 := p0.kept hka
    obtain ⟨At, ct, rfl, _, _, rw⟩ := ot.rd
    rw [hwl]
    clear ot hka hk7
    go_wp2_with fail
    refine (FW 1 (by decide) At ct _ rw).mono ?_
    rintro e vb1 ⟨vk, rfl, ox, hkb⟩
    obtain ⟨gx, cx, rfl⟩ := ox.pos (by rw [HWF.out 1 (by decide)]; exact hS0)
    rw [HWF.out 1 (by decide)]
    obtain ⟨d, hd⟩ : ∃ d, d = nth (fwdv 1 wv) := ⟨_, rfl⟩
    obtain ⟨sv, hsv⟩ : ∃ sv, sv = nth (fwdv 1 tv) := ⟨_, rfl⟩
    have I := IV 1 (by decide)
    rw [← hd, ← hsv] at I
    have hdp : ∀ j, 0 ≤ d j ∧ 0 ≤ sv j := fun j => by rw [hd, hsv]; exact HF1.out 1 j
    have hownI : vb1.ownsRow va1.heap.size 108 1 (.slice (some ⟨gx, 0, none⟩) S cx) S ((mk S (timesTo 1 d sv 0)).map (Value.int .u64)) := by
      rw [timesTo_zero, hd]
      have e : mk S (nth (fwdv 1 wv)) = fwdv 1 wv := by have := mk_nth (fwdv 1 wv); rwa [HWF.out 1 (by decide)] at this
      rw [e]
      have h := ox
      unfold Own at h
      rwa [HWF.out 1 (by decide)] at h
    have hall := timesTo_all 1 d sv S
    have HSV := Lib.hid hsv
    clear ox hd rw hsv
    go_wp2_with fail
    gi_wp2_with fail
    gi_loopw [86] (fun i wq => ∃ q : Nat, q ≤ S ∧ i = .int .i64 q ∧ wq.ownsRow va1.heap.size 108 1 (.slice (some ⟨gx, 0, none⟩) S cx) S ((mk S (timesTo 1 d sv q)).map (Value.int .u64)) ∧ Kept va1 wq) (fun i _ => S - (intOf i).toNat)
    case atStart => exact ⟨0, Nat.zero_le _, rfl, hownI, hkb⟩
    clear hownI hkb
    obtain ⟨q1, hqS, rfl, hown, hkq⟩ := hrel
    rcases Nat.lt_or_ge q1 S with hlt | hge
    · have e0 := World.ownsRow.cellAt hown q1 (by omega)
      rw [List.getElem?_map, List.getElem?_eq_getElem (by rw [mk_length]; omega), Option.map_some, ← nth_lt (by rw [mk_length]; omega), nth_mk hlt, timesTo_at] at e0
      have e1 : wr.cell? ⟨bs, 1, none⟩ = some (.slice A1 S c1) := kept_cell hkq (blk_cell (blk_kept kW fSl) 1)
      obtain ⟨aj, hA, e2⟩ := (r1.kept (kept_trans kW hkq)).at_ (j := q1) (by rw [HLF.out 1 (by decide)]; exact hlt)
      subst hA
      rw [← HSV.out] at e2
      have hset := timesTo_set 1 d sv hlt
      have MU := mul_c 1 (d q1) (sv q1) (hdp q1).1 (hdp q1).2
      generalize mulm 1 (d q1) (sv q1) = y at *
      generalize d q1 = x at *
      generalize sv q1 = z at *
      have HS := Lib.hid hset
      clear hset hall fT fZ fN fSl hR rt r0 r1 r2 kW I IV FW WD hsub hmin HFB HWF HLF HF1 HS1 HF2 hdp
      gi_wp2_with fail
      have ks_e0 := fun s => kw_cell s e0
      have ks_e1 := fun s => kw_cell s e1
      have ks_e2 := fun s => kw_cell s e2
      refine rd_region_tail0 14 (by kernel_rfl) (by kernel_rfl) (by kernel_rfl) (by rintro ⟨a, w, h⟩; exact h) (fun _ _ _ _ h => h) ?_
      simp only [List.take_succ_cons, List.take_zero, List.drop_succ_cons, List.drop_zero]
      repeat (first | go_big_quiet_skip | (go_big_quiet_want; go_big_quiet_op; first | go_big_quiet_on | (apply Exists.intro; refine ⟨fun s => ?_, ?_⟩; (first | (go_at_call 103; exact call_kept (MU _))); go_big_quiet_on)))
      refine wpQuiet_nil ?_
      rintro w7 ⟨⟨_, hk7⟩, rfl⟩
      clear ks_e0 ks_e1 ks_e2 e0 e1 e2
      have hownA : w7.ownsRow va1.heap.size 108 1 (.slice (some ⟨gx, 0, none⟩) S _) S ((mk S (timesTo 1 d sv q1)).map (Value.int .u64)) := rowKept hown hk7
      have hkA := kept_trans hkq hk7
      have d0 := World.ownsRow.cellAt hownA q1 (by omega)
      rw [List.getElem?_map, List.getElem?_eq_getElem (by rw [mk_length]; omega), Option.map_some] at d0
      have f0 := World.ownsRow.frozenAt hownA q1
      have ST := World.ownsRow.stored hownA q1 (.int .u64 y)
      rw [← List.map_set, HS.out] at ST
      generalize (mk S (timesTo 1 d sv q1))[q1]'(by rw [mk_length]; omega) = old at *
      have ea : (⟨gx, 0, none⟩ : Addr).add q1 = ⟨gx, q1, none⟩ := by unfold Addr.add; split <;> simp_all
      clear hown hkq hk7
      go_wp2_with fail
      gi_wp2_with fail
      exact ⟨⟨q1 + 1, by omega, by go_num, ST.1, kept_grown hkA hownA (Nat.le_refl _) ST.2⟩, by simp [intOf]; omega⟩
    obtain rfl : S = q1 := by omega
    rw [hall] at hown
    clear hall hge hqS hdp HSV
    replace hR := blk_kept hkq hR
    replace kW := kept_trans kW hkq
    replace hsz := Nat.le_trans hsz hkq.size
    replace p0 := p0.kept hkq
    have rx : Rd .u64 wr (some ⟨gx, 0, none⟩) (mk S fun j => mulm 1 (d j) (sv j)) := by
      have hO : Own .u64 108 va1.heap.size wr (.slice (some ⟨gx, 0, none⟩) S cx) (mk S fun j => mulm 1 (d j) (sv j)) := by
        unfold Own
        rw [mk_length]
        exact hown
      obtain ⟨A', c', e, _, _, r⟩ := hO.rd
      simp only [Value.slice.injEq] at e
      rw [← e.1] at r
      exact r
    clear hown hkq
    gi_wp2_with fail
    refine ⟨trivial, (CallsIn.inRound l (callsIn_wide.2 (I (some ⟨gx, 0, none⟩) cx _ rx))).mono ?_⟩
    rintro e vi1 ⟨vv, rfl, oi, hki⟩
    have p1 := oi.less hsz
    clear oi rx I
    replace hR := blk_kept hki hR
    replace kW := kept_trans kW hki
    replace hsz := Nat.le_trans hsz hki.size
    replace p0 := p0.kept hki
    obtain ⟨g1, t1, rfl⟩ := p1.pos (by rw [mk_length]; exact hS0)
    obtain ⟨_, _, ez, lz, _, _⟩ := p1.rd
    simp only [Value.slice.injEq] at ez
    rw [mk_length] at lz ⊢
    have hMc : M ≤ t1 := by have := ez.2.2; omega
    clear ez lz
    have D0 : vi1.cell? ⟨rb, 1, none⟩ = some (.slice none 0 0) := blk_cell hR 1
    have F0 := blk_frozen hR 1
    have hR1 := blk_set hR 1 (.slice (some ⟨g1, 0, none⟩) S t1)
    have D1 : (vi1.setCell ⟨rb, 1, none⟩ (.slice (some ⟨g1, 0, none⟩) S t1)).cell? ⟨rb, 1, none⟩ = some (.slice (some ⟨g1, 0, none⟩) S t1) := blk_cell hR1 1
    have F1 := blk_frozen hR1 1
    have hR2 := blk_set hR1 1 (.slice (some ⟨g1, 0, none⟩) M t1)
    have kW2 := kept_set (kept_set kW (p := ⟨rb, 1, none⟩) (by show W.heap.size ≤ rb; omega) (.slice (some ⟨g1, 0, none⟩) S t1)) (p := ⟨rb, 1, none⟩) (by show W.heap.size ≤ rb; omega) (.slice (some ⟨g1, 0, none⟩) M t1)
    have hsz2 : rb + 1 ≤ ((vi1.setCell ⟨rb, 1, none⟩ (.slice (some ⟨g1, 0, none⟩) S t1)).setCell ⟨rb, 1, none⟩ (.slice (some ⟨g1, 0, none⟩) M t1)).heap.size := by simpa using hsz
    have pp0 : Own .u64 108 (rb + 1) ((vi1.setCell ⟨rb, 1, none⟩ (.slice (some ⟨g1, 0, none⟩) S t1)).setCell ⟨rb, 1, none⟩ (.slice (some ⟨g1, 0, none⟩) M t1)) _ _ := own_set (own_set p0 (p := ⟨rb, 1, none⟩) (Nat.lt_succ_self _) (.slice (some ⟨g1, 0, none⟩) S t1)) (p := ⟨rb, 1, none⟩) (Nat.lt_succ_self _) (.slice (some ⟨g1, 0, none⟩) M t1)
    have pp1 : Own .u64 108 (rb + 1) ((vi1.setCell ⟨rb, 1, none⟩ (.slice (some ⟨g1, 0, none⟩) S t1)).setCell ⟨rb, 1, none⟩ (.slice (some ⟨g1, 0, none⟩) M t1)) _ _ := own_set (own_set p1 (p := ⟨rb, 1, none⟩) (Nat.lt_succ_self _) (.slice (some ⟨g1, 0, none⟩) S t1)) (p := ⟨rb, 1, none⟩) (Nat.lt_succ_self _) (.slice (some ⟨g1, 0, none⟩) M t1)
    clear hR kW hsz hR1 p0 p1
    gi_wp2_with fail
    generalize ((vi1.setCell ⟨rb, 1, none⟩ (.slice (some ⟨g1, 0, none⟩) S t1)).setCell ⟨rb, 1, none⟩ (.slice (some ⟨g1, 0, none⟩) M t1)) = v2 at *
    have hR : v2.heap[rb]? = some (.cells #[.slice (some ⟨g0, 0, none⟩) M t0, .slice (some ⟨g1, 0, none⟩) M t1, .slice none 0 0] 158 (0, 0)) := hR2
    have kW := kW2
    have hsz := hsz2
    clear hR2 kW2 hsz2 D0 F0 D1 F1
    have p0 := pp0
    clear pp0
    have p1 := pp1
    clear pp1
    rw [roundsIn_succ]
    have d1 : v2.cell? ⟨g + 2, 0, none⟩ = some (.int .i64 (n : Nat)) := blk_cell (blk_kept kW fN) 0
    have d2 : v2.cell? ⟨g + 1, 0, none⟩ = some (.int .i64 (S : Nat)) := blk_cell (blk_kept kW fZ) 0
    have d3 : v2.cell? ⟨g, 0, none⟩ = some (.slice (some bd) n cb) := blk_cell (blk_kept kW fT) 0
    gi_wp2_with fail
    have ks_1 := fun s => kw_cell s d1
    have ks_2 := fun s => kw_cell s d2
    have ks_3 := fun s => kw_cell s d3
    refine rd_region_tail1 (.int .i64 2) 10 (by kernel_rfl) (by decide) (by kernel_rfl) (by kernel_rfl) (by rintro ⟨a, w, h⟩; exact h) (fun _ _ _ _ h => h) (.inl ⟨rfl, fun _ => rfl⟩) ?_
    simp only [List.take_succ_cons, List.take_zero, List.drop_succ_cons, List.drop_zero, Nat.reduceSub, Act.put, List.setIfInBounds_toArray, List.set_cons_succ, List.set_cons_zero]
    repeat (first | go_big_quiet_skip | (go_big_quiet_want; go_big_quiet_op; go_big_quiet_on))
    refine wpQuiet_nil ?_
    rintro vp2 ⟨⟨_, hk7⟩, rfl⟩
    clear ks_1 ks_2 ks_3 d1 d2 d3
    replace hR := blk_kept hk7 hR
    replace kW := kept_trans kW hk7
    replace hsz := Nat.le_trans hsz hk7.size
    replace p0 := p0.kept hk7
    replace p1 := p1.kept hk7
    go_wp2_with fail
    refine (WD _ _ _ (hsub _ (rt.kept kW))).mono ?_
    rintro e va2 ⟨vt, rfl, ot, hka⟩
    replace hR := blk_kept hka hR
    replace kW := kept_trans kW hka
    replace hsz := Nat.le_trans hsz hka.size
    replace p0 := p0.kept hka
    replace p1 := p1.kept hka
    obtain ⟨At, ct, rfl, _, _, rw⟩ := ot.rd
    rw [hwl]
    clear ot hka hk7
    go_wp2_with fail
    refine (FW 2 (by decide) At ct _ rw).mono ?_
    rintro e vb2 ⟨vk, rfl, ox, hkb⟩
    obtain ⟨gx, cx, rfl⟩ := ox.pos (by rw [HWF.out 2 (by decide)]; exact hS0)
    rw [HWF.out 2 (by decide)]
    obtain ⟨d, hd⟩ : ∃ d, d = nth (fwdv 2 wv) := ⟨_, rfl⟩
    obtain ⟨sv, hsv⟩ : ∃ sv, sv = nth (fwdv 2 tv) := ⟨_, rfl⟩
    have I := IV 2 (by decide)
    rw [← hd, ← hsv] at I
    have hdp : ∀ j, 0 ≤ d j ∧ 0 ≤ sv j := fun j => by rw [hd, hsv]; exact HF1.out 2 j
    have hownI : vb2.ownsRow va2.heap.size 108 1 (.slice (some ⟨gx, 0, none⟩) S cx) S ((mk S (timesTo 2 d sv 0)).map (Value.int .u64)) := by
      rw [timesTo_zero, hd]
      have e : mk S (nth (fwdv 2 wv)) = fwdv 2 wv := by have := mk_nth (fwdv 2 wv); rwa [HWF.out 2 (by decide)] at this
      rw [e]
      have h := ox
      unfold Own at h
      rwa [HWF.out 2 (by decide)] at h
    have hall := timesTo_all 2 d sv S
    have HSV := Lib.hid hsv
    clear ox hd rw hsv
    go_wp2_with fail
    gi_wp2_with fail
    gi_loopw [86] (fun i wq => ∃ q : Nat, q ≤ S ∧ i = .int .i64 q ∧ wq.ownsRow va2.heap.size 108 1 (.slice (some ⟨gx, 0, none⟩) S cx) S ((mk S (timesTo 2 d sv q)).map (Value.int .u64)) ∧ Kept va2 wq) (fun i _ => S - (intOf i).toNat)
    case atStart => exact ⟨0, Nat.zero_le _, rfl, hownI, hkb⟩
    clear hownI hkb
    obtain ⟨q2, hqS, rfl, hown, hkq⟩ := hrel
    rcases Nat.lt_or_ge q2 S with hlt | hge
    · have e0 := World.ownsRow.cellAt hown q2 (by omega)
      rw [List.getElem?_map, List.getElem?_eq_getElem (by rw [mk_length]; omega), Option.map_some, ← nth_lt (by rw [mk_length]; omega), nth_mk hlt, timesTo_at] at e0
      have e1 : wr.cell? ⟨bs, 2, none⟩ = some (.slice A2 S c2) := kept_cell hkq (blk_cell (blk_kept kW fSl) 2)
      obtain ⟨aj, hA, e2⟩ := (r2.kept (kept_trans kW hkq)).at_ (j := q2) (by rw [HLF.out 2 (by decide)]; exact hlt)
      subst hA
      rw [← HSV.out] at e2
      have hset := timesTo_set 2 d sv hlt
      have MU := mul_c 2 (d q2) (sv q2) (hdp q2).1 (hdp q2).2
      generalize mulm 2 (d q2) (sv q2) = y at *
      generalize d q2 = x at *
      generalize sv q2 = z at *
      have HS := Lib.hid hset
      clear hset hall fT fZ fN fSl hR rt r0 r1 r2 kW I IV FW WD hsub hmin HFB HWF HLF HF1 HS1 HF2 hdp
      gi_wp2_with fail
      have ks_e0 := fun s => kw_cell s e0
      have ks_e1 := fun s => kw_cell s e1
      have ks_e2 := fun s => kw_cell s e2
      refine rd_region_tail0 14 (by kernel_rfl) (by kernel_rfl) (by kernel_rfl) (by rintro ⟨a, w, h⟩; exact h) (fun _ _ _ _ h => h) ?_
      simp only [List.take_succ_cons, List.take_zero, List.drop_succ_cons, List.drop_zero]
      repeat (first | go_big_quiet_skip | (go_big_quiet_want; go_big_quiet_op; first | go_big_quiet_on | (apply Exists.intro; refine ⟨fun s => ?_, ?_⟩; (first | (go_at_call 103; exact call_kept (MU _))); go_big_quiet_on)))
      refine wpQuiet_nil ?_
      rintro w7 ⟨⟨_, hk7⟩, rfl⟩
      clear ks_e0 ks_e1 ks_e2 e0 e1 e2
      have hownA : w7.ownsRow va2.heap.size 108 1 (.slice (some ⟨gx, 0, none⟩) S _) S ((mk S (timesTo 2 d sv q2)).map (Value.int .u64)) := rowKept hown hk7
      have hkA := kept_trans hkq hk7
      have d0 := World.ownsRow.cellAt hownA q2 (by omega)
      rw [List.getElem?_map, List.getElem?_eq_getElem (by rw [mk_length]; omega), Option.map_some] at d0
      have f0 := World.ownsRow.frozenAt hownA q2
      have ST := World.ownsRow.stored hownA q2 (.int .u64 y)
      rw [← List.map_set, HS.out] at ST
      generalize (mk S (timesTo 2 d sv q2))[q2]'(by rw [mk_length]; omega) = old at *
      have ea : (⟨gx, 0, none⟩ : Addr).add q2 = ⟨gx, q2, none⟩ := by unfold Addr.add; split <;> simp_all
      clear hown hkq hk7
      go_wp2_with fail
      gi_wp2_with fail
      exact ⟨⟨q2 + 1, by omega, by go_num, ST.1, kept_grown hkA hownA (Nat.le_refl _) ST.2⟩, by simp [intOf]; omega⟩
    obtain rfl : S = q2 := by omega
    rw [hall] at hown
    clear hall hge hqS hdp HSV
    replace hR := blk_kept hkq hR
    replace kW := kept_trans kW hkq
    replace hsz := Nat.le_trans hsz hkq.size
    replace p0 := p0.kept hkq
    replace p1 := p1.kept hkq
    have rx : Rd .u64 wr (some ⟨gx, 0, none⟩) (mk S fun j => mulm 2 (d j) (sv j)) := by
      have hO : Own .u64 108 va2.heap.size wr (.slice (some ⟨gx, 0, none⟩) S cx) (mk S fun j => mulm 2 (d j) (sv j)) := by
        unfold Own
        rw [mk_length]
        exact hown
      obtain ⟨A', c', e, _, _, r⟩ := hO.rd
      simp only [Value.slice.injEq] at e
      rw [← e.1] at r
      exact r
    clear hown hkq
    gi_wp2_with fail
    refine ⟨trivial, (CallsIn.inRound l (callsIn_wide.2 (I (some ⟨gx, 0, none⟩) cx _ rx))).mono ?_⟩
    rintro e vi2 ⟨vv, rfl, oi, hki⟩
    have p2 := oi.less hsz
    clear oi rx I
    replace hR := blk_kept hki hR
    replace kW := kept_trans kW hki
    replace hsz := Nat.le_trans hsz hki.size
    replace p0 := p0.kept hki
    replace p1 := p1.kept hki
    obtain ⟨g2, t2, rfl⟩ := p2.pos (by rw [mk_length]; exact hS0)
    obtain ⟨_, _, ez, lz, _, _⟩ := p2.rd
    simp only [Value.slice.injEq] at ez
    rw [mk_length] at lz ⊢
    have hMc : M ≤ t2 := by have := ez.2.2; omega
    clear ez lz
    have D0 : vi2.cell? ⟨rb, 2, none⟩ = some (.slice none 0 0) := blk_cell hR 2
    have F0 := blk_frozen hR 2
    have hR1 := blk_set hR 2 (.slice (some ⟨g2, 0, none⟩) S t2)
    have D1 : (vi2.setCell ⟨rb, 2, none⟩ (.slice (some ⟨g2, 0, none⟩) S t2)).cell? ⟨rb, 2, none⟩ = some (.slice (some ⟨g2, 0, none⟩) S t2) := blk_cell hR1 2
    have F1 := blk_frozen hR1 2
    have hR2 := blk_set hR1 2 (.slice (some ⟨g2, 0, none⟩) M t2)
    have kW2 := kept_set (kept_set kW (p := ⟨rb, 2, none⟩) (by show W.heap.size ≤ rb; omega) (.slice (some ⟨g2, 0, none⟩) S t2)) (p := ⟨rb, 2, none⟩) (by show W.heap.size ≤ rb; omega) (.slice (some ⟨g2, 0, none⟩) M t2)
    have hsz2 : rb + 1 ≤ ((vi2.setCell ⟨rb, 2, none⟩ (.slice (some ⟨g2, 0, none⟩) S t2)).setCell ⟨rb, 2, none⟩ (.slice (some ⟨g2, 0, none⟩) M t2)).heap.size := by simpa using hsz
    have pp0 : Own .u64 108 (rb + 1) ((vi2.setCell ⟨rb, 2, none⟩ (.slice (some ⟨g2, 0, none⟩) S t2)).setCell ⟨rb, 2, none⟩ (.slice (some ⟨g2, 0, none⟩) M t2)) _ _ := own_set (own_set p0 (p := ⟨rb, 2, none⟩) (Nat.lt_succ_self _) (.slice (some ⟨g2, 0, none⟩) S t2)) (p := ⟨rb, 2, none⟩) (Nat.lt_succ_self _) (.slice (some ⟨g2, 0, none⟩) M t2)
    have pp1 : Own .u64 108 (rb + 1) ((vi2.setCell ⟨rb, 2, none⟩ (.slice (some ⟨g2, 0, none⟩) S t2)).setCell ⟨rb, 2, none⟩ (.slice (some ⟨g2, 0, none⟩) M t2)) _ _ := own_set (own_set p1 (p := ⟨rb, 2, none⟩) (Nat.lt_succ_self _) (.slice (some ⟨g2, 0, none⟩) S t2)) (p := ⟨rb, 2, none⟩) (Nat.lt_succ_self _) (.slice (some ⟨g2, 0, none⟩) M t2)
    have pp2 : Own .u64 108 (rb + 1) ((vi2.setCell ⟨rb, 2, none⟩ (.slice (some ⟨g2, 0, none⟩) S t2)).setCell ⟨rb, 2, none⟩ (.slice (some ⟨g2, 0, none⟩) M t2)) _ _ := own_set (own_set p2 (p := ⟨rb, 2, none⟩) (Nat.lt_succ_self _) (.slice (some ⟨g2, 0, none⟩) S t2)) (p := ⟨rb, 2, none⟩) (Nat.lt_succ_self _) (.slice (some ⟨g2, 0, none⟩) M t2)
    clear hR kW hsz hR1 p0 p1 p2
    gi_wp2_with fail
    generalize ((vi2.setCell ⟨rb, 2, none⟩ (.slice (some ⟨g2, 0, none⟩) S t2)).setCell ⟨rb, 2, none⟩ (.slice (some ⟨g2, 0, none⟩) M t2)) = v3 at *
    have hR : v3.heap[rb]? = some (.cells #[.slice (some ⟨g0, 0, none⟩) M t0, .slice (some ⟨g1, 0, none⟩) M t1, .slice (some ⟨g2, 0, none⟩) M t2] 158 (0, 0)) := hR2
    have kW := kW2
    have hsz := hsz2
    clear hR2 kW2 hsz2 D0 F0 D1 F1
    have p0 := pp0
    clear pp0
    have p1 := pp1
    clear pp1
    have p2 := pp2
    clear pp2
    rw [roundsIn_succ]
    obtain ⟨i1, hif1, hy0, hy1, hy2⟩ := info_parts info_u64
    have E0 : v3.cell? ⟨rb, 0, none⟩ = some (.slice (some ⟨g0, 0, none⟩) M t0) := blk_cell hR 0
    have E1 : v3.cell? ⟨rb, 1, none⟩ = some (.slice (some ⟨g1, 0, none⟩) M t1) := blk_cell hR 1
    have E2 : v3.cell? ⟨rb, 2, none⟩ = some (.slice (some ⟨g2, 0, none⟩) M t2) := blk_cell hR 2
    obtain ⟨_, _, ez, _, _, rz0⟩ := p0.rd
    simp only [Value.slice.injEq] at ez
    rw [← ez.1] at rz0
    clear ez p0
    have ry0 : Rd .u64 v3 (some ⟨g0, 0, none⟩) (mk M fun t => of 0 (fB t)) := rz0.pre (by rw [mk_length, mk_length]; exact hMS) (fun j hj => by rw [mk_length] at hj; rw [nth_mk hj, nth_mk (by omega)]; exact (HF2.out 0 j hj).symm)
    clear rz0
    obtain ⟨_, _, ez, _, _, rz1⟩ := p1.rd
    simp only [Value.slice.injEq] at ez
    rw [← ez.1] at rz1
    clear ez p1
    have ry1 : Rd .u64 v3 (some ⟨g1, 0, none⟩) (mk M fun t => of 1 (fB t)) := rz1.pre (by rw [mk_length, mk_length]; exact hMS) (fun j hj => by rw [mk_length] at hj; rw [nth_mk hj, nth_mk (by omega)]; exact (HF2.out 1 j hj).symm)
    clear rz1
    obtain ⟨_, _, ez, _, _, rz2⟩ := p2.rd
    simp only [Value.slice.injEq] at ez
    rw [← ez.1] at rz2
    clear ez p2
    have ry2 : Rd .u64 v3 (some ⟨g2, 0, none⟩) (mk M fun t => of 2 (fB t)) := rz2.pre (by rw [mk_length, mk_length]; exact hMS) (fun j hj => by rw [mk_length] at hj; rw [nth_mk hj, nth_mk (by omega)]; exact (HF2.out 2 j hj).symm)
    clear rz2
    have hrows := rows_sums (n := M) (f := fB) (fun t _ => HFB.out t)
    have R := rows_at true (mk M fB) _ _ _ t0 t1 t2 _ _ _ v3 ry0 ry1 ry2 (u64_of 0 M fB) (u64_of 1 M fB) (u64_of 2 M fB) (by rw [mk_length]; omega) hrows.1 hrows.2
    rw [mk_length, mk_length, mk_length] at R
    clear ry0 ry1 ry2 hrows hR
    gi_wp2_with fail
    refine ⟨trivial, (CallsIn.inRound l (callsIn_wide.2 R)).mono ?_⟩
    rintro e ve ⟨vr, rfl, orr, hke⟩
    obtain ⟨AR, cR, rfl, lR, uR, rR⟩ := orr.rd
    rw [mk_length] at lR ⊢
    obtain ⟨ar, rfl, _⟩ := rR.at_ (j := 0) (by rw [mk_length]; exact hM1)
    replace kW := kept_trans kW hke
    have hO := blk_kept kW hb
    have E5 : ve.cell? ⟨bo, 0, none⟩ = some v := blk_cell hO 0
    have hoe := rowKept ho kW
    have hW8 := kW.size
    have hs8 : wp.heap.size ≤ ve.heap.size := by omega
    have hq8 := HQ3.out
    have hB8 := HSO.out
    have hne : ∀ i, i < wp.heap.size → some i ≠ v.ownBlock := fun i hi e => by have := (World.ownsRow.lt hoe i e.symm).1; omega
    have hcells : ∀ (j : Nat) (o : Obj), v.ownBlock = some j → ve.heap[j]? = some o → o.isCells = true := by
      intro j o h1 h2
      rcases hoe.2 with ⟨rfl, _⟩ | ⟨g', cap, cur, rfl, _, hgb, _⟩
      · cases h1
      · have e : g' = j := by simpa [Value.ownBlock] using h1
        rw [← e, hgb] at h2
        cases h2
        rfl
    have HC := Lib.hid hcells
    have HNE := Lib.hid hne
    clear orr R E0 E1 E2 hke hcells hne hq8 hB8
    gi_wp2_with (gi_at_builtin; refine Hid.out ?_)
    refine Lib.hid ?_
    refine bridge_list (by rintro ⟨a, w, h⟩; exact h) _ _ _ (by kernel_rfl) ?_
    refine wpList_append_lies _ (by rfl) _ _ _ (by rfl) wp.heap.size 108 i1 _ 1 8 Tryz.underlying123 hif1 hy0 hy1 hy2 rfl (by omega) v fl.length (fl.map (Value.int .u64)) (by rfl) hoe ar M cR ((mk M fB).map (Value.int .u64)) (by rfl) (by rw [List.length_map, mk_length]; omega) (rd_cells rR) (cells_one _ _) hM1 (by unfold maxLen; omega) (by omega) hs8 ve.heap.size rfl ?_
    intro g6 cap6 w6 hown6 hgrow6 hat6 hlt6
    have hq8 := HQ3.out
    have hB8 := HSO.out
    have hO6 : w6.heap[bo]? = some (.cells #[v] 123 (0, 0)) := (hgrow6.block bo (by omega) (HNE.out bo (by omega))).trans hO
    have E6 : w6.cell? ⟨bo, 0, none⟩ = some v := blk_cell hO6 0
    have F6 := blk_frozen hO6 0
    have K6 := kept_grown (kept_trans hk kW) hoe kp.size hgrow6
    have G6 := hgrow6.size
    clear E5
    go_wp2_with fail
    gi_wp2_with fail
    have hfar : ∀ u i, i < wp.heap.size → i ≠ bo → (w6.setCell ⟨bo, 0, none⟩ u).heap[i]? = W.heap[i]? := fun u i h1 h2 => (Below.heap_setCell w6 ⟨bo, 0, none⟩ u i h2).trans ((hgrow6.block i (by omega) (HNE.out i h1)).trans (kW.block i (by omega)))
    refine ⟨KeepsOthers.trans ⟨kW.size, fun k o hk _ => blk_kept kW hk⟩ (KeepsOthers.trans (KeepsOthers.of_grownBy hgrow6 HC.out) (KeepsOthers.setCell _ _ _)), ⟨hfar _ B1 (by omega) (by omega), hfar _ (B1 + 1) (by omega) (by omega)⟩, ⟨_, blk_set hO6 0 _, ?_⟩, kept_set K6 (p := ⟨bo, 0, none⟩) (by show wd2.heap.size ≤ bo; omega) _, by simp; omega⟩
    rw [HS1.out, List.length_append, mk_length, List.map_append]
    exact own_set hown6 (p := ⟨bo, 0, none⟩) (by show bo < wp.heap.size; omega) _
end Go.Proofs.YtdejablhpljdfaaGreat
