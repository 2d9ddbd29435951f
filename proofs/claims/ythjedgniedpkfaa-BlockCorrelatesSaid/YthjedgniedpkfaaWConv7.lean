/-
  Layer 4 (conv): products by transforms.
-/
import Derived.Test.YthjedgniedpkfaaWConv6
namespace Go.Proofs.Ythjedgniedpkfaa
open Go.RowKit BG
attribute [local go_sem ↓] Go.wp_at_zero Go.wp_at_succ
set_option linter.unusedVariables false

theorem cycv_wide {k : Int} (hk : pr k ≠ 0) {L : Nat} (hL : L ≤ 12) {xs ys : List Int} (h : xs.length + ys.length ≤ 2 ^ L + 1) (hx : 0 < xs.length) (hy : 0 < ys.length) :
    cycv k (widev xs (2 ^ L)) (widev ys (2 ^ L)) = mk (2 ^ L) fun t => of k (cs (nth xs) (nth ys) xs.length ys.length t) := by
  have he : cycErr k (widev xs (2 ^ L)).length (widev ys (2 ^ L)).length = 0 := by
    rw [widev_length, widev_length]; unfold cycErr; rw [if_pos (amiss_pow hk hL), if_pos rfl]
  unfold cycv
  rw [if_pos he, widev_length]
  exact mk_congr fun t ht => by rw [widev_cyc h hx hy ht]
theorem own_set {w : World} {base n size : Nat} {e : TypeId} {v : Value} {xs : List Value} (h : w.ownsRow base e size v n xs) {p : Addr} (hp : p.block < base) (u : Value) : (w.setCell p u).ownsRow base e size v n xs :=
  World.ownsRow.kept h (⟨rfl, rfl, rfl, by simp, fun i hi hne => Below.heap_setCell w p u i fun e => hne (by rw [e])⟩ : w.grownBy (w.setCell p u) (some p.block)) (by
    cases e : v.ownBlock with
    | none => exact .inl rfl
    | some g => exact .inr fun e2 => by cases e2; have := (World.ownsRow.lt h _ e).1; omega)
theorem Own.form {k : IntKind} {e : TypeId} {base : Nat} {w : World} {v : Value} {xs : List Int} (h : Own k e base w v xs) : ∃ A c, v = .slice A xs.length c := by
  obtain ⟨A, c, e, _⟩ := h.rd
  exact ⟨A, c, e⟩
set_option maxRecDepth 100000 in
set_option maxHeartbeats 4000000 in
theorem fast_c (A B : Option Addr) (ca cb : Nat) (xs ys : List Int) (hu : U64 xs) (hv : U64 ys) (hlx : xs.length ≤ 100000000000000) (hly : ys.length ≤ 100000000000000) (w : World) (hr : Rd .u64 w A xs) (hs : Rd .u64 w B ys) : Calls Try.prog 37 #[.slice A xs.length ca, .slice B ys.length cb] w (Ans (pval xs ys) (perr xs ys) w) := by
  have hm := hr.1
  have hm2 := hs.1
  obtain ⟨i1, hif1, hy0, hy1, hy2⟩ := info_parts info_u64
  by_cases h0 : xs.length = 0
  · obtain ⟨e1, e2⟩ := pval_nil (ys := ys) (.inl h0)
    have E1 := Lib.hid e1
    rw [e2]
    obtain rfl : xs = [] := List.length_eq_zero_iff.1 h0
    clear e1 e2 h0
    go_enter Try.func37, Try.ntmps37
    go_wp2_with fail
    exact bodyPost_ret (v := .tuple #[.slice none 0 0, .int .i64 0]) (by simp [results, Try.results37, go_sem]) rfl (Ans.none E1.out (kept_refl _))
  by_cases h1 : ys.length = 0
  · obtain ⟨e1, e2⟩ := pval_nil (xs := xs) (.inr h1)
    have E1 := Lib.hid e1
    rw [e2]
    have hb := beq_zero _ h0
    obtain rfl : ys = [] := List.length_eq_zero_iff.1 h1
    clear e1 e2 h0 h1
    go_enter Try.func37, Try.ntmps37
    go_wp2_with fail
    exact bodyPost_ret (v := .tuple #[.slice none 0 0, .int .i64 0]) (by simp [results, Try.results37, go_sem]) rfl (Ans.none E1.out (kept_refl _))
  have hb0 := beq_zero _ h0
  have hb1 := beq_zero _ h1
  have C := check_c4 A B ca cb xs ys hu hv hlx hly w hr hs
  rw [← pval_err h0 h1] at C
  by_cases he : ¬ perr xs ys = 0
  · have E1 := Lib.hid (pval_bad he)
    generalize perr xs ys = er at *
    clear h0 h1
    go_enter Try.func37, Try.ntmps37
    go_wp2_with fail
    refine C.mono ?_
    rintro e w1 ⟨rfl, hk1⟩
    go_wp2_with fail
    exact bodyPost_ret (v := .tuple #[.slice none 0 0, .int .i64 er]) (by simp [results, Try.results37, go_sem]) rfl (Ans.none E1.out hk1)
  replace he := Decidable.not_not.1 he
  have hcz : cerr xs.length ys.length (greatest xs) (greatest ys) = 0 := by rw [← pval_err h0 h1]; exact he
  have hbd := (cerr_zero (greatest_bd hu).1 (greatest_bd hv).1 hcz).1
  have hval := pval_good h0 h1 he
  rw [he] at C
  rw [he, hval]
  have hx0 : 0 < xs.length := by omega
  have hy0' : 0 < ys.length := by omega
  obtain ⟨ad, rfl, _⟩ := hr.at_ (j := 0) hx0
  obtain ⟨bd, rfl, _⟩ := hs.at_ (j := 0) hy0'
  have hszo : szOk ((xs.length + ys.length - 1 : Nat) : Int) = true := decide_eq_true (by omega)
  obtain ⟨hL, hL2, _⟩ := szL_spec hszo
  have hsv : szv ((xs.length + ys.length - 1 : Nat) : Int) = ((2 ^ szL ((xs.length + ys.length - 1 : Nat) : Int) : Nat) : Int) := by unfold szv; rw [if_pos hszo]
  have SZ := size_c ((xs.length + ys.length - 1 : Nat) : Int)
  rw [hszo, hsv] at SZ
  have hN : (xs.length : Int) + (ys.length : Int) - 1 = ((xs.length + ys.length - 1 : Nat) : Int) := by omega
  have hle : xs.length + ys.length ≤ 2 ^ szL ((xs.length + ys.length - 1 : Nat) : Int) + 1 := by omega
  have hNS : xs.length + ys.length - 1 ≤ 2 ^ szL ((xs.length + ys.length - 1 : Nat) : Int) := by omega
  have hS4 : 2 ^ szL ((xs.length + ys.length - 1 : Nat) : Int) ≤ 4096 := Nat.pow_le_pow_right (n := 2) (by decide) hL
  have hcy := fun k (hk : pr k ≠ 0) => cycv_wide hk hL hle hx0 hy0'
  have hsmall := fun t => (⟨cs_nonneg (fun i => (hu i).1) (fun i => (hv i).1) _ _ t, prod_small hu hv hcz t⟩ : 0 ≤ cs (nth xs) (nth ys) xs.length ys.length t ∧ cs (nth xs) (nth ys) xs.length ys.length t ≤ 18446744073709551615)
  have hrows := rows_sums (n := 2 ^ szL ((xs.length + ys.length - 1 : Nat) : Int)) (f := fun t => cs (nth xs) (nth ys) xs.length ys.length t) (fun t _ => hsmall t)
  have hpv : prodv (nth xs) (nth ys) xs.length ys.length = mk (xs.length + ys.length - 1) fun t => cs (nth xs) (nth ys) xs.length ys.length t := mk_congr fun t _ => by have := hsmall t; omega
  have hpl : (prodv (nth xs) (nth ys) xs.length ys.length).length = xs.length + ys.length - 1 := mk_length _ _
  have WA := fun B w1 a b => clo_wide_c ad ca xs hx0 B (2 ^ szL ((xs.length + ys.length - 1 : Nat) : Int)) (by omega) hS4 w1 a b
  have WB := fun B w1 a b => clo_wide_c bd cb ys hy0' B (2 ^ szL ((xs.length + ys.length - 1 : Nat) : Int)) (by omega) hS4 w1 a b
  have nwa := widev_nn hu (2 ^ szL ((xs.length + ys.length - 1 : Nat) : Int))
  have nwb := widev_nn hv (2 ^ szL ((xs.length + ys.length - 1 : Nat) : Int))
  have lwa := widev_length xs (2 ^ szL ((xs.length + ys.length - 1 : Nat) : Int))
  have lwb := widev_length ys (2 ^ szL ((xs.length + ys.length - 1 : Nat) : Int))
  generalize 2 ^ szL ((xs.length + ys.length - 1 : Nat) : Int) = S at *
  have CY : ∀ k (hk : pr k ≠ 0) A B ca cb w1 (a : Rd .u64 w1 A (widev xs S)) (b : Rd .u64 w1 B (widev ys S)), _ := fun k hk A B ca cb w1 a b => (hcy k hk) ▸ cyclic_c k A B ca cb (widev xs S) (widev ys S) nwa nwb w1 a b
  rw [lwa, lwb] at CY
  generalize widev xs S = wa at *
  generalize widev ys S = wb at *
  have uf := fun k => u64_of k S (fun t => cs (nth xs) (nth ys) xs.length ys.length t)
  have lf := fun k : Int => (mk_length S fun t => of k (cs (nth xs) (nth ys) xs.length ys.length t))
  generalize hcf : (fun t => cs (nth xs) (nth ys) xs.length ys.length t) = f at *
  generalize xs.length + ys.length - 1 = N at *
  generalize prodv (nth xs) (nth ys) xs.length ys.length = pv at *
  unfold Ans
  rw [hpl]
  have HPL := Lib.hid hpl
  have HPV := Lib.hid hpv
  clear hpl hpv hcy hsmall hval hcz hbd hcf hszo hsv hu hv hle he
  go_enter Try.func37, Try.ntmps37
  go_wp2_with fail
  refine C.mono ?_
  rintro e w1 ⟨rfl, hk1⟩
  clear C
  go_wp2_with fail
  refine (SZ _).mono ?_
  rintro e w2 ⟨rfl, hk2⟩
  have hk := kept_trans hk1 hk2
  clear hk1 hk2 SZ
  have hB := blk_alloc (blk_new w2 (.cells #[.int .i64 (S : Nat)] 3)) (.cells #[.slice none 0 0, .slice none 0 0, .slice none 0 0] 42)
  have hb := blk_new1 w2 (.cells #[.int .i64 (S : Nat)] 3) (.cells #[.slice none 0 0, .slice none 0 0, .slice none 0 0] 42)
  have kw := kept_trans hk (kept_alloc (kept_alloc (kept_refl w2) (.cells #[.int .i64 (S : Nat)] 3)) (.cells #[.slice none 0 0, .slice none 0 0, .slice none 0 0] 42))
  have hsz : w2.heap.size + 1 + 1 ≤ ((w2.alloc (.cells #[.int .i64 (S : Nat)] 3)).alloc (.cells #[.slice none 0 0, .slice none 0 0, .slice none 0 0] 42)).heap.size := by simp
  have hwB : w.heap.size ≤ w2.heap.size := hk.size
  go_wp2_with fail
  generalize (w2.alloc (.cells #[.int .i64 (S : Nat)] 3)).alloc (.cells #[.slice none 0 0, .slice none 0 0, .slice none 0 0] 42) = wz at *
  clear hk
  generalize w2.heap.size = B at *
  refine wp_loop_rounds 4 ?_
  rw [rounds_succ]
  go_wp2_with fail
  refine (WA B _ (hr.kept kw) (blk_cell hB 0)).mono ?_
  rintro e wa0 ⟨va, rfl, owa, hka⟩
  replace hB := blk_kept hka hB
  replace hb := blk_kept hka hb
  replace kw := kept_trans kw hka
  replace hsz := Nat.le_trans hsz hka.size
  go_wp2_with fail
  refine (WB B _ (hs.kept kw) (blk_cell hB 0)).mono ?_
  rintro e wb0 ⟨vb, rfl, owb, hkb⟩
  replace hB := blk_kept hkb hB
  replace hb := blk_kept hkb hb
  replace kw := kept_trans kw hkb
  replace hsz := Nat.le_trans hsz hkb.size
  obtain ⟨Aa, caa, rfl, _, _, ra⟩ := (owa.kept hkb).rd
  obtain ⟨Ab, cab, rfl, _, _, rb⟩ := owb.rd
  rw [lwa, lwb]
  clear owa owb hka hkb
  go_wp2_with fail
  refine (CY 0 (by decide) Aa Ab caa cab _ ra rb).mono ?_
  rintro e wc0 ⟨vk, rfl, o0, hkc⟩
  replace o0 := o0.less hsz
  replace hB := blk_kept hkc hB
  replace hb := blk_kept hkc hb
  replace kw := kept_trans kw hkc
  replace hsz := Nat.le_trans hsz hkc.size
  clear ra rb hkc
  obtain ⟨A0, c0, rfl⟩ := o0.form
  rw [lf]
  have D0 : wc0.cell? ⟨B + 1, 0, none⟩ = some (.slice none 0 0) := blk_cell hb 0
  have F0 := blk_frozen hb 0
  have hb2 := blk_set hb 0 (.slice A0 S c0)
  have hB2 := blk_far hB (p := ⟨B + 1, 0, none⟩) (by simp) (.slice A0 S c0)
  have kw2 := kept_set kw (p := ⟨B + 1, 0, none⟩) (by show w.heap.size ≤ B + 1; omega) (.slice A0 S c0)
  have hsz2 : B + 1 + 1 ≤ (wc0.setCell ⟨B + 1, 0, none⟩ (.slice A0 S c0)).heap.size := by simpa using hsz
  have oo0 : Own .u64 40 (B + 1 + 1) (wc0.setCell ⟨B + 1, 0, none⟩ (.slice A0 S c0)) _ _ := own_set o0 (p := ⟨B + 1, 0, none⟩) (Nat.lt_succ_self _) (.slice A0 S c0)
  clear hb hB kw hsz o0
  go_wp2_with fail
  generalize wc0.setCell ⟨B + 1, 0, none⟩ (.slice A0 S c0) = wd0 at *
  have hb : wd0.heap[B + 1]? = some (.cells #[.slice A0 S c0, .slice none 0 0, .slice none 0 0] 42 (0, 0)) := hb2
  have hB := hB2
  have kw := kw2
  have hsz := hsz2
  clear hb2 hB2 kw2 hsz2 D0 F0
  have o0 := oo0
  clear oo0
  rw [rounds_succ]
  go_wp2_with fail
  refine (WA B _ (hr.kept kw) (blk_cell hB 0)).mono ?_
  rintro e wa1 ⟨va, rfl, owa, hka⟩
  replace hB := blk_kept hka hB
  replace hb := blk_kept hka hb
  replace kw := kept_trans kw hka
  replace hsz := Nat.le_trans hsz hka.size
  replace o0 := o0.kept hka
  go_wp2_with fail
  refine (WB B _ (hs.kept kw) (blk_cell hB 0)).mono ?_
  rintro e wb1 ⟨vb, rfl, owb, hkb⟩
  replace hB := blk_kept hkb hB
  replace hb := blk_kept hkb hb
  replace kw := kept_trans kw hkb
  replace hsz := Nat.le_trans hsz hkb.size
  replace o0 := o0.kept hkb
  obtain ⟨Aa, caa, rfl, _, _, ra⟩ := (owa.kept hkb).rd
  obtain ⟨Ab, cab, rfl, _, _, rb⟩ := owb.rd
  rw [lwa, lwb]
  clear owa owb hka hkb
  go_wp2_with fail
  refine (CY 1 (by decide) Aa Ab caa cab _ ra rb).mono ?_
  rintro e wc1 ⟨vk, rfl, o1, hkc⟩
  replace o1 := o1.less hsz
  replace hB := blk_kept hkc hB
  replace hb := blk_kept hkc hb
  replace kw := kept_trans kw hkc
  replace hsz := Nat.le_trans hsz hkc.size
  replace o0 := o0.kept hkc
  clear ra rb hkc
  obtain ⟨A1, c1, rfl⟩ := o1.form
  rw [lf]
  have D0 : wc1.cell? ⟨B + 1, 1, none⟩ = some (.slice none 0 0) := blk_cell hb 1
  have F0 := blk_frozen hb 1
  have hb2 := blk_set hb 1 (.slice A1 S c1)
  have hB2 := blk_far hB (p := ⟨B + 1, 1, none⟩) (by simp) (.slice A1 S c1)
  have kw2 := kept_set kw (p := ⟨B + 1, 1, none⟩) (by show w.heap.size ≤ B + 1; omega) (.slice A1 S c1)
  have hsz2 : B + 1 + 1 ≤ (wc1.setCell ⟨B + 1, 1, none⟩ (.slice A1 S c1)).heap.size := by simpa using hsz
  have oo0 : Own .u64 40 (B + 1 + 1) (wc1.setCell ⟨B + 1, 1, none⟩ (.slice A1 S c1)) _ _ := own_set o0 (p := ⟨B + 1, 1, none⟩) (Nat.lt_succ_self _) (.slice A1 S c1)
  have oo1 : Own .u64 40 (B + 1 + 1) (wc1.setCell ⟨B + 1, 1, none⟩ (.slice A1 S c1)) _ _ := own_set o1 (p := ⟨B + 1, 1, none⟩) (Nat.lt_succ_self _) (.slice A1 S c1)
  clear hb hB kw hsz o0 o1
  go_wp2_with fail
  generalize wc1.setCell ⟨B + 1, 1, none⟩ (.slice A1 S c1) = wd1 at *
  have hb : wd1.heap[B + 1]? = some (.cells #[.slice A0 S c0, .slice A1 S c1, .slice none 0 0] 42 (0, 0)) := hb2
  have hB := hB2
  have kw := kw2
  have hsz := hsz2
  clear hb2 hB2 kw2 hsz2 D0 F0
  have o0 := oo0
  clear oo0
  have o1 := oo1
  clear oo1
  rw [rounds_succ]
  go_wp2_with fail
  refine (WA B _ (hr.kept kw) (blk_cell hB 0)).mono ?_
  rintro e wa2 ⟨va, rfl, owa, hka⟩
  replace hB := blk_kept hka hB
  replace hb := blk_kept hka hb
  replace kw := kept_trans kw hka
  replace hsz := Nat.le_trans hsz hka.size
  replace o0 := o0.kept hka
  replace o1 := o1.kept hka
  go_wp2_with fail
  refine (WB B _ (hs.kept kw) (blk_cell hB 0)).mono ?_
  rintro e wb2 ⟨vb, rfl, owb, hkb⟩
  replace hB := blk_kept hkb hB
  replace hb := blk_kept hkb hb
  replace kw := kept_trans kw hkb
  replace hsz := Nat.le_trans hsz hkb.size
  replace o0 := o0.kept hkb
  replace o1 := o1.kept hkb
  obtain ⟨Aa, caa, rfl, _, _, ra⟩ := (owa.kept hkb).rd
  obtain ⟨Ab, cab, rfl, _, _, rb⟩ := owb.rd
  rw [lwa, lwb]
  clear owa owb hka hkb
  go_wp2_with fail
  refine (CY 2 (by decide) Aa Ab caa cab _ ra rb).mono ?_
  rintro e wc2 ⟨vk, rfl, o2, hkc⟩
  replace o2 := o2.less hsz
  replace hB := blk_kept hkc hB
  replace hb := blk_kept hkc hb
  replace kw := kept_trans kw hkc
  replace hsz := Nat.le_trans hsz hkc.size
  replace o0 := o0.kept hkc
  replace o1 := o1.kept hkc
  clear ra rb hkc
  obtain ⟨A2, c2, rfl⟩ := o2.form
  rw [lf]
  have D0 : wc2.cell? ⟨B + 1, 2, none⟩ = some (.slice none 0 0) := blk_cell hb 2
  have F0 := blk_frozen hb 2
  have hb2 := blk_set hb 2 (.slice A2 S c2)
  have hB2 := blk_far hB (p := ⟨B + 1, 2, none⟩) (by simp) (.slice A2 S c2)
  have kw2 := kept_set kw (p := ⟨B + 1, 2, none⟩) (by show w.heap.size ≤ B + 1; omega) (.slice A2 S c2)
  have hsz2 : B + 1 + 1 ≤ (wc2.setCell ⟨B + 1, 2, none⟩ (.slice A2 S c2)).heap.size := by simpa using hsz
  have oo0 : Own .u64 40 (B + 1 + 1) (wc2.setCell ⟨B + 1, 2, none⟩ (.slice A2 S c2)) _ _ := own_set o0 (p := ⟨B + 1, 2, none⟩) (Nat.lt_succ_self _) (.slice A2 S c2)
  have oo1 : Own .u64 40 (B + 1 + 1) (wc2.setCell ⟨B + 1, 2, none⟩ (.slice A2 S c2)) _ _ := own_set o1 (p := ⟨B + 1, 2, none⟩) (Nat.lt_succ_self _) (.slice A2 S c2)
  have oo2 : Own .u64 40 (B + 1 + 1) (wc2.setCell ⟨B + 1, 2, none⟩ (.slice A2 S c2)) _ _ := own_set o2 (p := ⟨B + 1, 2, none⟩) (Nat.lt_succ_self _) (.slice A2 S c2)
  clear hb hB kw hsz o0 o1 o2
  go_wp2_with fail
  generalize wc2.setCell ⟨B + 1, 2, none⟩ (.slice A2 S c2) = wd2 at *
  have hb : wd2.heap[B + 1]? = some (.cells #[.slice A0 S c0, .slice A1 S c1, .slice A2 S c2] 42 (0, 0)) := hb2
  have hB := hB2
  have kw := kw2
  have hsz := hsz2
  clear hb2 hB2 kw2 hsz2 D0 F0
  have o0 := oo0
  clear oo0
  have o1 := oo1
  clear oo1
  have o2 := oo2
  clear oo2
  rw [rounds_succ]
  have E0 : wd2.cell? ⟨B + 1, 0, none⟩ = some (.slice A0 S c0) := blk_cell hb 0
  have E1 : wd2.cell? ⟨B + 1, 1, none⟩ = some (.slice A1 S c1) := blk_cell hb 1
  have E2 : wd2.cell? ⟨B + 1, 2, none⟩ = some (.slice A2 S c2) := blk_cell hb 2
  obtain ⟨X0, y0, f0, _, _, r0⟩ := o0.rd
  obtain ⟨X1, y1, f1, _, _, r1⟩ := o1.rd
  obtain ⟨X2, y2, f2, _, _, r2⟩ := o2.rd
  simp only [Value.slice.injEq] at f0 f1 f2
  rw [← f0.1] at r0
  rw [← f1.1] at r1
  rw [← f2.1] at r2
  have R := rows_at true (mk S f) A0 A1 A2 c0 c1 c2 _ _ _ wd2 r0 r1 r2 (uf 0) (uf 1) (uf 2) (by rw [lf]; omega) hrows.1 hrows.2
  rw [lf, lf, lf] at R
  clear o0 o1 o2 r0 r1 r2 f0 f1 f2 uf lf hrows CY WA WB hb hB
  go_wp2_with fail
  refine R.mono ?_
  rintro e we ⟨vr, rfl, orr, hke⟩
  clear R
  obtain ⟨AR, cR, rfl, lR, uR, rR⟩ := orr.rd
  rw [mk_length] at lR
  obtain ⟨ar, rfl, _⟩ := rR.at_ (j := 0) (by rw [mk_length]; omega)
  rw [mk_length]
  have hNc : N ≤ cR := by omega
  clear orr
  go_wp2_with fail
  exact bodyPost_ret (v := .tuple #[.slice (some ar) N cR, .int .i64 0]) (by simp [results, Try.results37, go_sem]) rfl ⟨_, _, rfl, by rw [HPV.out]; exact rR.pre (by rw [mk_length, mk_length]; exact hNS) (fun j hj => by rw [mk_length] at hj; rw [nth_mk hj, nth_mk (by omega)]), kept_trans kw hke, hNc, uR⟩
end Go.Proofs.Ythjedgniedpkfaa
