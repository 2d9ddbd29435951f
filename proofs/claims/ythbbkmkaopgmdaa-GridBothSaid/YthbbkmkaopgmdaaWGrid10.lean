/-
  Layer 22 (grid): where a mask stands in a field, by the document.
-/
import Derived.Test.YthbbkmkaopgmdaaWGrid9
namespace Go.Proofs.Ythbbkmkaopgmdaa
open Go.RowKit BG
attribute [local go_sem ↓] Go.wp_at_zero Go.wp_at_succ
set_option linter.unusedVariables false

theorem at_lt {F V RR hh x y n N i : Nat} (hV : 1 ≤ V) (hN : RR * F = N) (hn : hh * V = n) (hy : y + hh ≤ RR) (hx : x + V ≤ F) (hi : i < n) : atP F V x y i < N := by
  have h1 : i / V < hh := by
    rw [Nat.div_lt_iff_lt_mul (by omega), hn]; exact hi
  have h2 : i % V < V := Nat.mod_lt _ (by omega)
  have h3 : (y + i / V + 1) * F ≤ RR * F := Nat.mul_le_mul_right F (by omega)
  rw [Nat.add_mul, Nat.one_mul] at h3
  unfold atP
  omega
theorem long_wrap2 {F V h : Nat} (hF : F ≤ 64) (hV : V ≤ 64) (h1 : 1 ≤ h) (h2 : h ≤ 64) : wrap64 (wrap64 ((F : Int) * ((h : Int) - 1)) + (V : Int)) = ((F * (h - 1) + V : Nat) : Int) := by
  obtain ⟨k, rfl⟩ : ∃ k, h = k + 1 := ⟨h - 1, by omega⟩
  have hb : F * k ≤ 64 * 64 := Nat.mul_le_mul hF (by omega)
  rw [show (((k + 1 : Nat) : Int) - 1) = (k : Int) by omega, ← Int.natCast_mul, show k + 1 - 1 = k by omega]
  generalize F * k = z at *
  unfold wrap64
  omega
theorem keep_at {xs : List Int} {n : Nat} {s : ByteArray} {F V x y : Nat} (hV : 1 ≤ V) (hVF : V ≤ F) (hx : x < F - V + 1) : keepb xs n s F V (y * F + x) = standsv xs n s F V x y ∧ (y * F + x) % F = x ∧ (y * F + x) / F = y := by
  have h1 : (y * F + x) % F = x := by rw [Nat.mul_comm, Nat.mul_add_mod, Nat.mod_eq_of_lt (by omega)]
  have h2 : (y * F + x) / F = y := by rw [Nat.mul_comm, Nat.mul_add_div (by omega), Nat.div_eq_of_lt (by omega), Nat.add_zero]
  refine ⟨?_, h1, h2⟩
  unfold keepb
  rw [h1, h2, decide_eq_true hx, Bool.true_and]
set_option maxRecDepth 100000 in
set_option maxHeartbeats 8000000 in
theorem rfind_form (W V : Int) (A : Option Addr) (cap n : Nat) (xs : List Int) (s : ByteArray) (size : Int) (hu : U64 xs) (hl : xs.length = 4 * n) (hn : n ≤ 1000000) (hs : s.size ≤ 1000000) (w : World) (hr : Rd .u64 w A xs) (hno : fok W V xs n s = false) : Calls Try.prog 16 #[fieldV W s, maskV V A n cap, .int .i64 size] w (AnsF W V xs n s size w) := by
  have e1 : findN W V xs n s size = 0 := by unfold findN findOk; rw [hno]; rfl
  have e2 : findL W V xs n s size = [] := by unfold findL findOk; rw [hno]; rfl
  have e3 : findE W V xs n s size = 220 := by unfold findE; rw [hno]; rfl
  unfold AnsF
  rw [e1, e2, e3]
  clear e1 e2 e3
  have hm := hr.1
  have ka := kept_alloc (kept_alloc (kept_refl w) (.cells #[.int .i64 W, .string s] 23)) (.cells #[.int .i64 V, .slice A n cap] 26)
  have hbf := blk_alloc (blk_new w (.cells #[.int .i64 W, .string s] 23)) (.cells #[.int .i64 V, .slice A n cap] 26)
  have hbm := blk_new1 w (.cells #[.int .i64 W, .string s] 23) (.cells #[.int .i64 V, .slice A n cap] 26)
  have R := fun w1 => rfieldright_c W s (by omega) w1
  have M := fun w1 h => rmay_c V A cap n xs hu hl w1 h
  unfold fok at hno
  generalize rowsb W s.size = rb at *
  generalize mayb V xs n = mb at *
  have kf := kept_refl w
  go_enter Try.func16, Try.ntmps16
  cases rb
  · go_wp2_with fail
    refine (R _).mono ?_
    rintro e w1 ⟨rfl, hk1⟩
    go_wp2_with fail
    exact bodyPost_ret (v := .tuple #[.slice none 0 0, .int .i64 0, .int .i64 220]) (by simp [results, Try.results16, go_sem]) rfl ⟨_, rfl, Own2.nil _ _, kept_trans ka hk1⟩
  · cases mb
    · go_wp2_with fail
      refine (R _).mono ?_
      rintro e w1 ⟨rfl, hk1⟩
      have c0 := cell_at (blk_kept hk1 hbm) 0 rfl
      have c1 := cell_at (blk_kept hk1 hbm) 1 rfl
      go_wp2_with fail
      refine (M _ (hr.kept (kept_trans ka hk1))).mono ?_
      rintro e w2 ⟨rfl, hk2⟩
      go_wp2_with fail
      exact bodyPost_ret (v := .tuple #[.slice none 0 0, .int .i64 0, .int .i64 220]) (by simp [results, Try.results16, go_sem]) rfl ⟨_, rfl, Own2.nil _ _, kept_trans ka (kept_trans hk1 hk2)⟩
    · cases hno
set_option maxRecDepth 100000 in
set_option maxHeartbeats 8000000 in
theorem rfind_small (F V : Nat) (A : Option Addr) (cap n : Nat) (xs : List Int) (s : ByteArray) (size : Int) (hu : U64 xs) (hl : xs.length = 4 * n) (hn : n ≤ 1000000) (hs : s.size ≤ 1000000) (w : World) (hr : Rd .u64 w A xs) (hmF : s.size % F = 0) (hmV : n % V = 0) (hh1 : 1 ≤ n / V) (hF : 1 ≤ F) (hF2 : F ≤ 64) (hV : 1 ≤ V) (hV2 : V ≤ 64) (hRR : s.size / F ≤ 64) (hhh : n / V ≤ 64) (hok : fok (F : Int) (V : Int) xs n s = true) (hno : fitb F V n s.size = false) : Calls Try.prog 16 #[fieldV (F : Int) s, maskV (V : Int) A n cap, .int .i64 size] w (AnsF (F : Int) (V : Int) xs n s size w) := by
  have e1 : findN (F : Int) (V : Int) xs n s size = 0 := by unfold findN findOk; rw [Int.toNat_natCast, Int.toNat_natCast, hok, hno]; rfl
  have e2 : findL (F : Int) (V : Int) xs n s size = [] := by unfold findL findOk; rw [Int.toNat_natCast, Int.toNat_natCast, hok, hno]; rfl
  have e3 : findE (F : Int) (V : Int) xs n s size = 0 := by unfold findE; rw [Int.toNat_natCast, Int.toNat_natCast, hok, hno]; rfl
  unfold AnsF
  rw [e1, e2, e3]
  clear e1 e2 e3
  have hm := hr.1
  have ka := kept_alloc (kept_alloc (kept_refl w) (.cells #[.int .i64 (F : Nat), .string s] 23)) (.cells #[.int .i64 (V : Nat), .slice A n cap] 26)
  have hbf := blk_alloc (blk_new w (.cells #[.int .i64 (F : Nat), .string s] 23)) (.cells #[.int .i64 (V : Nat), .slice A n cap] 26)
  have hbm := blk_new1 w (.cells #[.int .i64 (F : Nat), .string s] 23) (.cells #[.int .i64 (V : Nat), .slice A n cap] 26)
  have R := fun w1 => rfieldright_c (F : Int) s (by omega) w1
  have M := fun w1 h => rmay_c (V : Int) A cap n xs hu hl w1 h
  have hok' := hok
  unfold fok at hok'
  rw [Bool.and_eq_true] at hok'
  obtain ⟨hrb, hmb⟩ := hok'
  rw [hrb] at R
  rw [hmb] at M
  clear hrb hmb
  have hzF : ((F : Int) == 0) = false := by rw [beq_eq_false_iff_ne]; omega
  have hzV : ((V : Int) == 0) = false := by rw [beq_eq_false_iff_ne]; omega
  have hqF := tdiv_nat s.size F
  have hqV := tdiv_nat n V
  generalize hRn : s.size / F = RR at *
  generalize hhn : n / V = hh at *
  go_enter Try.func16, Try.ntmps16
  go_wp2_with fail
  refine (R _).mono ?_
  rintro e w1 ⟨rfl, hk1⟩
  have c0 := cell_at (blk_kept hk1 hbm) 0 rfl
  have c1 := cell_at (blk_kept hk1 hbm) 1 rfl
  go_wp2_with fail
  refine (M _ (hr.kept (kept_trans ka hk1))).mono ?_
  rintro e w2 ⟨rfl, hk2⟩
  replace hk2 := kept_trans hk1 hk2
  replace hbm := blk_kept hk2 hbm
  replace hbf := blk_kept hk2 hbf
  replace ka := kept_trans ka hk2
  have c0 := cell_at hbm 0 rfl
  have c1 := cell_at hbm 1 rfl
  have d0 := cell_at hbf 0 rfl
  have d1 := cell_at hbf 1 rfl
  clear hk1 hk2 R M
  have hd : (decide (F < V) = true) ∨ (decide (F < V) = false ∧ decide (RR < hh) = true) := by
    unfold fitb at hno
    rw [hRn, hhn] at hno
    by_cases h1 : V ≤ F
    · by_cases h2 : hh ≤ RR
      · rw [decide_eq_true h1, decide_eq_true h2] at hno; cases hno
      · exact .inr ⟨decide_eq_false (by omega), decide_eq_true (by omega)⟩
    · exact .inl (decide_eq_true (by omega))
  clear hno hRn hhn
  rcases hd with d1 | ⟨d1, d2⟩
  · go_wp2_with fail
    exact bodyPost_ret (v := .tuple #[.slice none 0 0, .int .i64 0, .int .i64 0]) (by simp [results, Try.results16, go_sem]) rfl ⟨_, rfl, Own2.nil _ _, ka⟩
  · go_wp2_with fail
    exact bodyPost_ret (v := .tuple #[.slice none 0 0, .int .i64 0, .int .i64 0]) (by simp [results, Try.results16, go_sem]) rfl ⟨_, rfl, Own2.nil _ _, ka⟩
set_option maxRecDepth 100000 in
set_option maxHeartbeats 8000000 in
theorem rfind_size (F V : Nat) (A : Option Addr) (cap n : Nat) (xs : List Int) (s : ByteArray) (size : Int) (hu : U64 xs) (hl : xs.length = 4 * n) (hn : n ≤ 1000000) (hs : s.size ≤ 1000000) (w : World) (hr : Rd .u64 w A xs) (hmF : s.size % F = 0) (hmV : n % V = 0) (hh1 : 1 ≤ n / V) (hF : 1 ≤ F) (hF2 : F ≤ 64) (hV : 1 ≤ V) (hV2 : V ≤ 64) (hRR : s.size / F ≤ 64) (hhh : n / V ≤ 64) (hok : fok (F : Int) (V : Int) xs n s = true) (hfit : fitb F V n s.size = true) (hno : szb (longN F V n) size = false) : Calls Try.prog 16 #[fieldV (F : Int) s, maskV (V : Int) A n cap, .int .i64 size] w (AnsF (F : Int) (V : Int) xs n s size w) := by
  have e1 : findN (F : Int) (V : Int) xs n s size = 0 := by unfold findN findOk; rw [Int.toNat_natCast, Int.toNat_natCast, hok, hfit, hno]; rfl
  have e2 : findL (F : Int) (V : Int) xs n s size = [] := by unfold findL findOk; rw [Int.toNat_natCast, Int.toNat_natCast, hok, hfit, hno]; rfl
  have e3 : findE (F : Int) (V : Int) xs n s size = 50 := by unfold findE; rw [Int.toNat_natCast, Int.toNat_natCast, hok, hfit, hno]; rfl
  unfold AnsF
  rw [e1, e2, e3]
  clear e1 e2 e3
  have hm := hr.1
  have ka := kept_alloc (kept_alloc (kept_refl w) (.cells #[.int .i64 (F : Nat), .string s] 23)) (.cells #[.int .i64 (V : Nat), .slice A n cap] 26)
  have hbf := blk_alloc (blk_new w (.cells #[.int .i64 (F : Nat), .string s] 23)) (.cells #[.int .i64 (V : Nat), .slice A n cap] 26)
  have hbm := blk_new1 w (.cells #[.int .i64 (F : Nat), .string s] 23) (.cells #[.int .i64 (V : Nat), .slice A n cap] 26)
  have R := fun w1 => rfieldright_c (F : Int) s (by omega) w1
  have M := fun w1 h => rmay_c (V : Int) A cap n xs hu hl w1 h
  have hok' := hok
  unfold fok at hok'
  rw [Bool.and_eq_true] at hok'
  obtain ⟨hrb, hmb⟩ := hok'
  rw [hrb] at R
  rw [hmb] at M
  clear hrb hmb
  have hzF : ((F : Int) == 0) = false := by rw [beq_eq_false_iff_ne]; omega
  have hzV : ((V : Int) == 0) = false := by rw [beq_eq_false_iff_ne]; omega
  have hqF := tdiv_nat s.size F
  have hqV := tdiv_nat n V
  generalize hRn : s.size / F = RR at *
  generalize hhn : n / V = hh at *
  go_enter Try.func16, Try.ntmps16
  go_wp2_with fail
  refine (R _).mono ?_
  rintro e w1 ⟨rfl, hk1⟩
  have c0 := cell_at (blk_kept hk1 hbm) 0 rfl
  have c1 := cell_at (blk_kept hk1 hbm) 1 rfl
  go_wp2_with fail
  refine (M _ (hr.kept (kept_trans ka hk1))).mono ?_
  rintro e w2 ⟨rfl, hk2⟩
  replace hk2 := kept_trans hk1 hk2
  replace hbm := blk_kept hk2 hbm
  replace hbf := blk_kept hk2 hbf
  replace ka := kept_trans ka hk2
  have c0 := cell_at hbm 0 rfl
  have c1 := cell_at hbm 1 rfl
  have d0 := cell_at hbf 0 rfl
  have d1 := cell_at hbf 1 rfl
  clear hk1 hk2 R M
  unfold fitb at hfit
  rw [Bool.and_eq_true, decide_eq_true_eq, decide_eq_true_eq, hRn, hhn] at hfit
  obtain ⟨hVF, hhR⟩ := hfit
  have g1 : decide (F < V) = false := decide_eq_false (by omega)
  have g2 : decide (RR < hh) = false := decide_eq_false (by omega)
  have hLe : longN F V n = F * (hh - 1) + V := by rw [← hhn]; rfl
  have hLw := long_wrap2 hF2 hV2 hh1 hhh
  rw [← hLe] at hLw
  have HLW := Lib.hid hLw
  have HRN := Lib.hid hRn
  have HHN := Lib.hid hhn
  have G := fun w1 => rlog_c size w1
  clear hLe hRn hhn hLw
  generalize hLL : longN F V n = L at *
  have HLL := Lib.hid hLL
  clear hLL
  go_wp2_with fail
  rw [HLW.out]
  refine (G _).mono ?_
  rintro e w3 ⟨rfl, hk3⟩
  replace hbm := blk_kept hk3 hbm
  replace hbf := blk_kept hk3 hbf
  replace ka := kept_trans ka hk3
  clear hk3 c0 c1 d0 d1 G g1 g2 hqF hqV HLW
  have hd : (hasLog size = false) ∨ (hasLog size = true ∧ decide (size < (L : Int)) = true) := by
    unfold szb at hno
    cases h : hasLog size
    · exact .inl rfl
    · rw [h] at hno
      refine .inr ⟨rfl, ?_⟩
      rw [Bool.true_and, decide_eq_false_iff_not] at hno
      exact decide_eq_true (by omega)
  clear hno
  unfold Ltuple
  rcases hd with h1 | ⟨h1, h2⟩
  · rw [h1]
    go_wp2_with fail
    exact bodyPost_ret (v := .tuple #[.slice none 0 0, .int .i64 0, .int .i64 50]) (by simp [results, Try.results16, go_sem]) rfl ⟨_, rfl, Own2.nil _ _, ka⟩
  · rw [h1]
    go_wp2_with fail
    exact bodyPost_ret (v := .tuple #[.slice none 0 0, .int .i64 0, .int .i64 50]) (by simp [results, Try.results16, go_sem]) rfl ⟨_, rfl, Own2.nil _ _, ka⟩
set_option maxRecDepth 100000 in
set_option maxHeartbeats 16000000 in
theorem rfind_main (F V : Nat) (A : Option Addr) (cap n : Nat) (xs : List Int) (s : ByteArray) (size : Int) (hu : U64 xs) (hl : xs.length = 4 * n) (hn : n ≤ 1000000) (hs : s.size ≤ 1000000) (w : World) (hr : Rd .u64 w A xs) (hmF : s.size % F = 0) (hmV : n % V = 0) (hh1 : 1 ≤ n / V) (hF : 1 ≤ F) (hF2 : F ≤ 64) (hV : 1 ≤ V) (hV2 : V ≤ 64) (hRR : s.size / F ≤ 64) (hhh : n / V ≤ 64) (hok : fok (F : Int) (V : Int) xs n s = true) (hfit : fitb F V n s.size = true) (hyes : szb (longN F V n) size = true) : Calls Try.prog 16 #[fieldV (F : Int) s, maskV (V : Int) A n cap, .int .i64 size] w (AnsF (F : Int) (V : Int) xs n s size w) := by
  obtain ⟨i2, hif2, hz0, hz1, hz2⟩ := info_parts info_p2
  have hfk : findOk (F : Int) (V : Int) xs n s size = true := by unfold findOk; rw [Int.toNat_natCast, Int.toNat_natCast, hok, hfit, hyes]; rfl
  have e1 : findN (F : Int) (V : Int) xs n s size = ((kindsC xs n).length : Int) * countv (longN F V n) s.size size := by unfold findN; rw [if_pos hfk, Int.toNat_natCast, Int.toNat_natCast]
  have e2 : findL (F : Int) (V : Int) xs n s size = placesL xs n s F V ((s.size / F - n / V + 1) * F) := by unfold findL; rw [if_pos hfk, Int.toNat_natCast, Int.toNat_natCast]
  have e3 : findE (F : Int) (V : Int) xs n s size = 0 := by unfold findE; rw [Int.toNat_natCast, Int.toNat_natCast, hok, hfit, hyes]; rfl
  unfold AnsF
  rw [e1, e2, e3, Int.toNat_natCast]
  clear e1 e2 e3 hfk
  have hnb : n ≤ 4096 := by
    have h1 := Nat.div_add_mod n V
    rw [hmV, Nat.add_zero] at h1
    have := Nat.mul_le_mul hV2 hhh
    omega
  have hnV : n / V * V = n := by have := Nat.div_add_mod n V; rw [hmV, Nat.add_zero, Nat.mul_comm] at this; exact this
  have hNF : s.size / F * F = s.size := by have := Nat.div_add_mod s.size F; rw [hmF, Nat.add_zero, Nat.mul_comm] at this; exact this
  have hm := hr.1
  have ka := kept_alloc (kept_alloc (kept_refl w) (.cells #[.int .i64 (F : Nat), .string s] 23)) (.cells #[.int .i64 (V : Nat), .slice A n cap] 26)
  have hbf := blk_alloc (blk_new w (.cells #[.int .i64 (F : Nat), .string s] 23)) (.cells #[.int .i64 (V : Nat), .slice A n cap] 26)
  have hbm := blk_new1 w (.cells #[.int .i64 (F : Nat), .string s] 23) (.cells #[.int .i64 (V : Nat), .slice A n cap] 26)
  have R := fun w1 => rfieldright_c (F : Int) s (by omega) w1
  have M := fun w1 h => rmay_c (V : Int) A cap n xs hu hl w1 h
  have hok' := hok
  unfold fok at hok'
  rw [Bool.and_eq_true] at hok'
  obtain ⟨hrb, hmb⟩ := hok'
  rw [hrb] at R
  rw [hmb] at M
  clear hrb hmb
  have hzF : ((F : Int) == 0) = false := by rw [beq_eq_false_iff_ne]; omega
  have hzV : ((V : Int) == 0) = false := by rw [beq_eq_false_iff_ne]; omega
  have hqF := tdiv_nat s.size F
  have hqV := tdiv_nat n V
  generalize hRn : s.size / F = RR at *
  generalize hhn : n / V = hh at *
  have HNV := Lib.hid hnV
  have HNF := Lib.hid hNF
  clear hnV hNF
  go_enter Try.func16, Try.ntmps16
  go_wp2_with fail
  refine (R _).mono ?_
  rintro e w1 ⟨rfl, hk1⟩
  have c0 := cell_at (blk_kept hk1 hbm) 0 rfl
  have c1 := cell_at (blk_kept hk1 hbm) 1 rfl
  go_wp2_with fail
  refine (M _ (hr.kept (kept_trans ka hk1))).mono ?_
  rintro e w2 ⟨rfl, hk2⟩
  replace hk2 := kept_trans hk1 hk2
  replace hbm := blk_kept hk2 hbm
  replace hbf := blk_kept hk2 hbf
  replace ka := kept_trans ka hk2
  have c0 := cell_at hbm 0 rfl
  have c1 := cell_at hbm 1 rfl
  have d0 := cell_at hbf 0 rfl
  have d1 := cell_at hbf 1 rfl
  clear hk1 hk2 R M
  unfold fitb at hfit
  rw [Bool.and_eq_true, decide_eq_true_eq, decide_eq_true_eq, hRn, hhn] at hfit
  obtain ⟨hVF, hhR⟩ := hfit
  have g1 : decide (F < V) = false := decide_eq_false (by omega)
  have g2 : decide (RR < hh) = false := decide_eq_false (by omega)
  have hLe : longN F V n = F * (hh - 1) + V := by rw [← hhn]; rfl
  have hLw := long_wrap2 hF2 hV2 hh1 hhh
  rw [← hLe] at hLw
  have HLW := Lib.hid hLw
  have HRN := Lib.hid hRn
  have HHN := Lib.hid hhn
  have G := fun w1 => rlog_c size w1
  clear hLe hRn hhn hLw
  generalize hLL : longN F V n = L at *
  have HLL := Lib.hid hLL
  clear hLL
  go_wp2_with fail
  rw [HLW.out]
  refine (G _).mono ?_
  rintro e w3 ⟨rfl, hk3⟩
  replace hbm := blk_kept hk3 hbm
  replace hbf := blk_kept hk3 hbf
  replace ka := kept_trans ka hk3
  clear hk3 c0 c1 d0 d1 G g1 g2 hqF hqV HLW
  have hsz := hyes
  unfold szb at hyes
  rw [Bool.and_eq_true, decide_eq_true_eq] at hyes
  obtain ⟨hlog, hle⟩ := hyes
  have d3 : decide (size < (L : Int)) = false := decide_eq_false (by omega)
  unfold Ltuple
  rw [hlog]
  clear hlog hle
  have hB1 : w.heap.size + 1 < w3.heap.size := blk_lt' hbm
  go_wp2_with fail
  go_loopw [14, 15] (fun v i w2 => ∃ y : Nat, y ≤ RR - hh + 1 ∧ i = .int .i64 y ∧ w2.ownsRow w3.heap.size 53 2 v (placesL xs n s F V (y * F)).length ((flatP F (placesL xs n s F V (y * F))).map (Value.int .i64)) ∧ Kept w3 w2) (fun _ i _ => RR + 1 - (intOf i).toNat)
  case atStart => exact ⟨0, Nat.zero_le _, rfl, by rw [Nat.zero_mul]; exact World.ownsRow_nil _ _ _ _, kept_refl _⟩
  case round =>
    obtain ⟨y, hy, rfl, hown, hk⟩ := hrel
    by_cases hlt : y + hh ≤ RR
    · have hyd : decide ((y : Int) + (hh : Int) ≤ (RR : Int)) = true := decide_eq_true (by omega)
      go_wp2_with fail
      go_loopw [14, 16] (fun v i w2 => ∃ x : Nat, x ≤ F - V + 1 ∧ i = .int .i64 x ∧ w2.ownsRow w3.heap.size 53 2 v (placesL xs n s F V (y * F + x)).length ((flatP F (placesL xs n s F V (y * F + x))).map (Value.int .i64)) ∧ Kept w3 w2) (fun _ i _ => F + 1 - (intOf i).toNat)
      case atStart => exact ⟨0, Nat.zero_le _, rfl, hown, hk⟩
      case round =>
        clear hown hk
        obtain ⟨x, hx, rfl, hown, hk⟩ := hrel
        have c0 := cell_at (blk_kept hk hbm) 0 rfl
        have c1 := cell_at (blk_kept hk hbm) 1 rfl
        have f0 := cell_at (blk_kept hk hbf) 0 rfl
        have f1 := cell_at (blk_kept hk hbf) 1 rfl
        by_cases hxl : x + V ≤ F
        · obtain ⟨hke, hm1, hm2⟩ := keep_at (xs := xs) (n := n) (s := s) (x := x) (y := y) hV hVF (by omega)
          have ST := fun w1 h => stands_c F V x y s A cap n xs hu hl hV hV2 hF hn hs (fun i hi => at_lt hV HNF.out HNV.out hlt hxl hi) w1 h
          have hp1 := placesL_yes (xs := xs) (n := n) (s := s) (F := F) (V := V) (q := y * F + x)
          have hp2 := placesL_no (xs := xs) (n := n) (s := s) (F := F) (V := V) (q := y * F + x)
          have hO1 := flatP_append F (placesL xs n s F V (y * F + x)) [y * F + x]
          rw [flatP_one, hm1, hm2] at hO1
          rw [hke] at hp1 hp2
          have hpb := placesL_le xs n s F V (y * F + x)
          have hyx : y * F + x ≤ 5000 := by
            have := Nat.mul_le_mul (show y ≤ 64 by omega) hF2
            omega
          have hpb2 := Nat.le_trans hpb hyx
          have HP1 := Lib.hid hp1
          have HP2 := Lib.hid hp2
          have HO1 := Lib.hid hO1
          clear hp1 hp2 hO1 hke hm1 hm2 hpb hyx
          generalize standsv xs n s F V x y = st at *
          go_wp2_with fail
          refine (ST _ (hr.kept (kept_trans ka hk))).mono ?_
          rintro e w5 ⟨rfl, hk5⟩
          have hown5 := rowKept hown hk5
          replace hk := kept_trans hk hk5
          clear hown hk5 ST c0 c1 f0 f1
          cases st
          · have HPN := Lib.hid (HP2.out rfl)
            clear HP1 HP2 HO1
            go_wp2_with fail
            exact ⟨⟨x + 1, by omega, by go_num, by rw [← Nat.add_assoc, HPN.out]; exact hown5, hk⟩, by simp [intOf]; omega⟩
          · have HPN := Lib.hid (HP1.out rfl)
            clear HP1 HP2
            generalize placesL xs n s F V (y * F + x) = pq at *
            have hsz5 := hk.size
            go_wp2_with (at_builtin; refine wpList_append_lies _ rfl _ _ 35 rfl w3.heap.size 53 i2 _ 2 16 Try.underlying35 hif2 hz0 hz1 hz2 rfl (by decide) _ _ _ rfl (hown5.alloc _) ⟨w5.heap.size, 0, none⟩ 1 1 [.int .i64 (x : Nat), .int .i64 (y : Nat)] rfl rfl ?c1 ?c2 ?c3 ?c4 ?c5 ?c6 (w5.heap.size + 1) ?c7 ?_)
            case c1 => exact World.news_of_block (cs := #[.int .i64 (x : Nat), .int .i64 (y : Nat)]) (t := 53) (fr := (0, 0)) (heap_alloc_new w5 _)
            case c2 => simp [Value.oneCell']
            case c3 => decide
            case c4 => unfold maxLen; omega
            case c5 => omega
            case c6 => simp; omega
            case c7 => simp
            intro g capn wn own9 hgrow hat hlt9
            have K9 := kept_grown (kept_alloc hk _) (hown5.alloc _) (Nat.le_refl _) hgrow
            have own10 : wn.ownsRow w3.heap.size 53 2 (.slice (some ⟨g, 0, none⟩) (pq.length + 1) capn) (placesL xs n s F V (y * F + (x + 1))).length ((flatP F (placesL xs n s F V (y * F + (x + 1)))).map (Value.int .i64)) := by
              rw [← Nat.add_assoc, HPN.out, HO1.out, List.map_append, List.length_append]; exact own9
            clear own9 hgrow hat hlt9 hk hown5 HO1 HPN
            go_wp2_with fail
            exact ⟨⟨x + 1, by omega, by go_num, own10, K9⟩, by simp [intOf]; omega⟩
        · obtain rfl : x = F - V + 1 := by omega
          have hrow := placesL_row (xs := xs) (n := n) (s := s) hV hVF y
          rw [hrow] at hown
          have hxw : ((F - V + 1 : Nat) : Int) = (F : Int) - (V : Int) + 1 := by omega
          clear hrow
          go_wp2_with fail
          exact ⟨⟨y + 1, by omega, by go_num, hown, hk⟩, by simp [intOf]; omega⟩
    · obtain rfl : y = RR - hh + 1 := by omega
      have c0 := cell_at (blk_kept hk hbm) 0 rfl
      have c1 := cell_at (blk_kept hk hbm) 1 rfl
      have f1 := cell_at (blk_kept hk hbf) 1 rfl
      have KD := fun w1 h => rkinds_c (V : Int) A cap n xs hu hl hn w1 h
      have CT := fun w1 => rcount_c (L : Int) (s.size : Int) size w1
      have hCb := countv_bd (L : Int) (s.size : Int) size
      have hkl := kindsC_le xs n
      have hfin : wrap64 (((kindsC xs n).length : Int) * countv (L : Nat) (s.size : Nat) size) = ((kindsC xs n).length : Int) * countv (longN F V n : Nat) (s.size : Nat) size := by
        rw [HLL.out]
        generalize countv (L : Int) (s.size : Int) size = C at *
        have h1 : 0 ≤ ((kindsC xs n).length : Int) * C := Int.mul_nonneg (by omega) hCb.1
        have h2 : ((kindsC xs n).length : Int) * C ≤ 4096 * 8796093022208 := Int.mul_le_mul (by omega) hCb.2 hCb.1 (by decide)
        generalize ((kindsC xs n).length : Int) * C = z at *
        unfold wrap64
        omega
      have HFIN := Lib.hid hfin
      clear hfin
      have hrk := hr.kept (kept_trans ka hk)
      generalize countv (L : Int) (s.size : Int) size = C at *
      generalize hkm : (kindsC xs n).length = m at *
      have HKM := Lib.hid hkm
      clear hkm
      go_wp2_with fail
      have cs_0 := fun s => kw_cell s c0
      have cs_1 := fun s => kw_cell s c1
      have fs_1 := fun s => kw_cell s f1
      refine wp_region_kept (by kernel_rfl) (by kernel_rfl) ?_
      repeat (first | go_big_quiet_skip | (go_big_quiet_want; go_big_quiet_op; first | go_big_quiet_on | (apply Exists.intro; refine ⟨fun s => ?_, ?_⟩; (first | (go_at_call 36; exact call_kept (KD _ (hrk.kept s.kept))) | (go_at_call 37; exact call_kept (CT _))); go_big_quiet_on)))
      refine wpQuiet_nil ?_
      rintro w7 ⟨⟨_, hk7⟩, rfl⟩
      go_wp2_with fail
      have hLf := HKM.out
      have o7 := rowKept hown hk7
      exact bodyPost_ret (v := .tuple #[u14, .int .i64 (((kindsC xs n).length : Int) * countv (longN F V n : Nat) (s.size : Nat) size), .int .i64 0]) (by simp [results, Try.results16, go_sem]; rw [HKM.out]; exact HFIN.out) rfl ⟨_, rfl, World.ownsRow.less2 o7 (by have := ka.size; omega), kept_trans ka (kept_trans hk hk7)⟩
theorem rfind_c (W V : Int) (A : Option Addr) (cap n : Nat) (xs : List Int) (s : ByteArray) (size : Int) (hu : U64 xs) (hl : xs.length = 4 * n) (hn : n ≤ 1000000) (hs : s.size ≤ 1000000) (w : World) (hr : Rd .u64 w A xs) : Calls Try.prog 16 #[fieldV W s, maskV V A n cap, .int .i64 size] w (AnsF W V xs n s size w) := by
  cases hok : fok W V xs n s
  · exact rfind_form W V A cap n xs s size hu hl hn hs w hr hok
  · obtain ⟨F, K, rfl, rfl, hF, hF2, hK, hK2, hmF, hmK, h1, h2, h3, _, _⟩ := fok_parts hok
    cases hfit : fitb F K n s.size
    · exact rfind_small F K A cap n xs s size hu hl hn hs w hr hmF hmK h1 hF hF2 hK hK2 h3 h2 hok hfit
    · cases hz : szb (longN F K n) size
      · exact rfind_size F K A cap n xs s size hu hl hn hs w hr hmF hmK h1 hF hF2 hK hK2 h3 h2 hok hfit hz
      · exact rfind_main F K A cap n xs s size hu hl hn hs w hr hmF hmK h1 hF hF2 hK hK2 h3 h2 hok hfit hz
end Go.Proofs.Ythbbkmkaopgmdaa
