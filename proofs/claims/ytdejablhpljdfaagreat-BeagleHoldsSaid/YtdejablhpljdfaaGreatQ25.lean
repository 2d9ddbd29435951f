/-
  Texts of one claim, joined: WGrid9.
-/
import Derived.Deep.AppendLies
import Derived.Deep.RegionLaw
import Derived.WalkMore
import Derived.Test.YtdejablhpljdfaaGreatQ14
import Derived.Test.YtdejablhpljdfaaGreatQ24
namespace Go.Proofs.YtdejablhpljdfaaGreat
open Go.RowKit BG
attribute [local go_sem ↓] Go.wp_at_zero Go.wp_at_succ
set_option linter.unusedVariables false
def longN (F V n : Nat) : Nat := F * (n / V - 1) + V
def fitb (F V n N : Nat) : Bool := decide (V ≤ F) && decide (n / V ≤ N / F)
def fok (W V : Int) (xs : List Int) (n : Nat) (s : ByteArray) : Bool := rowsb W s.size && mayb V xs n
def gfindOk (W V : Int) (xs : List Int) (n : Nat) (s : ByteArray) (size : Int) : Bool := fok W V xs n s && fitb W.toNat V.toNat n s.size && szb (longN W.toNat V.toNat n) size
def gfindE (W V : Int) (xs : List Int) (n : Nat) (s : ByteArray) (size : Int) : Int := if fok W V xs n s = true then (if fitb W.toNat V.toNat n s.size = true then (if szb (longN W.toNat V.toNat n) size = true then 0 else 50) else 0) else 220
def gfindL (W V : Int) (xs : List Int) (n : Nat) (s : ByteArray) (size : Int) : List Nat := if gfindOk W V xs n s size = true then placesL xs n s W.toNat V.toNat ((s.size / W.toNat - n / V.toNat + 1) * W.toNat) else []
def gfindN (W V : Int) (xs : List Int) (n : Nat) (s : ByteArray) (size : Int) : Int := if gfindOk W V xs n s size = true then ((kindsC xs n).length : Int) * countv (longN W.toNat V.toNat n) s.size size else 0
def AnsF (W V : Int) (xs : List Int) (n : Nat) (s : ByteArray) (size : Int) (w : World) (e : Ending) (w' : World) : Prop :=
  ∃ v, e = .returned (.tuple #[v, .int .i64 (gfindN W V xs n s size), .int .i64 (gfindE W V xs n s size)]) ∧ Own2 w.heap.size w' v (gfindL W V xs n s size).length (flatP W.toNat (gfindL W V xs n s size)) ∧ Kept w w'
theorem World.ownsRow.less2 {w : World} {base base' n size : Nat} {e : TypeId} {v : Value} {xs : List Value} (h : w.ownsRow base e size v n xs) (hb : base' ≤ base) : w.ownsRow base' e size v n xs := by
  obtain ⟨h1, h2⟩ := h
  refine ⟨h1, ?_⟩
  rcases h2 with h2 | ⟨g, cap, cur, hv, hg, r⟩
  · exact .inl h2
  · exact .inr ⟨g, cap, cur, hv, by omega, r⟩
theorem m_wrap {F V RR hh : Nat} (hF2 : F ≤ 64) (hVF : V ≤ F) (hhR : hh ≤ RR) (hRR : RR ≤ 64) : wrap64 ((F : Int) - (V : Int) + 1 + wrap64 (((RR : Int) - (hh : Int)) * (F : Int))) = (((RR - hh) * F + (F - V + 1) : Nat) : Int) := by
  obtain ⟨d, rfl⟩ : ∃ d, RR = hh + d := ⟨RR - hh, by omega⟩
  have hb : d * F ≤ 64 * 64 := Nat.mul_le_mul (by omega) hF2
  rw [show (((hh + d : Nat) : Int) - (hh : Int)) = (d : Int) by omega, ← Int.natCast_mul, show hh + d - hh = d by omega]
  generalize d * F = z at *
  unfold wrap64
  omega
theorem long_wrap {F V h : Nat} (hF : F ≤ 64) (hV : V ≤ 64) (h1 : 1 ≤ h) (h2 : h ≤ 64) : IntKind.i64.wrap (IntKind.i64.wrap ((F : Int) * IntKind.i64.wrap ((h : Int) - 1)) + (V : Int)) = ((F * (h - 1) + V : Nat) : Int) := by
  obtain ⟨k, rfl⟩ : ∃ k, h = k + 1 := ⟨h - 1, by omega⟩
  have e1 : IntKind.i64.wrap (((k + 1 : Nat) : Int) - 1) = (k : Int) := by rw [IntKind.wrap_i64]; omega
  have hb : F * k ≤ 64 * 64 := Nat.mul_le_mul hF (by omega)
  have e2 : IntKind.i64.wrap ((F : Int) * (k : Int)) = ((F * k : Nat) : Int) := by rw [← Int.natCast_mul, IntKind.wrap_i64]; omega
  rw [e1, e2, ← Int.natCast_add, IntKind.wrap_i64]
  rw [show k + 1 - 1 = k by omega]
  omega
theorem long_pos {F V n : Nat} {k : Nat} (hV : 1 ≤ V) (hVF : V ≤ F) (hk : k < n) (hm : n % V = 0) : posk F V k < longN F V n := by
  have h1 : k / V + 1 ≤ n / V := by
    have hn : n / V * V = n := by have := Nat.div_add_mod n V; rw [hm, Nat.add_zero, Nat.mul_comm] at this; exact this
    have h2 : k / V * V ≤ k := Nat.div_mul_le_self k V
    rcases Nat.lt_or_ge (k / V) (n / V) with h | h
    · exact h
    · have := Nat.mul_le_mul_right V h
      omega
  have h2 : k % V < V := Nat.mod_lt _ (by omega)
  have h3 := Nat.mul_le_mul_left F (show k / V ≤ n / V - 1 by omega)
  unfold posk longN
  rw [Nat.mul_comm (k / V) F]
  omega
theorem long_le {F V n N : Nat} (hVF : V ≤ F) (hN : N % F = 0) (h1 : 1 ≤ n / V) (h : n / V ≤ N / F) : longN F V n ≤ N ∧ N - longN F V n + 1 = (N / F - n / V) * F + (F - V + 1) := by
  have e : N / F * F = N := by have := Nat.div_add_mod N F; rw [hN, Nat.add_zero, Nat.mul_comm] at this; exact this
  unfold longN
  generalize N / F = R at *
  generalize n / V = q at *
  obtain ⟨d, rfl⟩ : ∃ d, R = q + d := ⟨R - q, by omega⟩
  obtain ⟨c, rfl⟩ : ∃ c, q = c + 1 := ⟨q - 1, by omega⟩
  have e1 : (c + 1 + d) * F = F * c + F + d * F := by rw [Nat.add_mul, Nat.add_mul, Nat.one_mul, Nat.mul_comm c F]
  rw [e1] at e
  rw [show c + 1 - 1 = c by omega, show c + 1 + d - (c + 1) = d by omega]
  omega
set_option maxRecDepth 100000 in
set_option maxHeartbeats 8000000 in
theorem find_form (W V : Int) (A : Option Addr) (cap n : Nat) (xs : List Int) (s : ByteArray) (size : Int) (hu : U64 xs) (hl : xs.length = 4 * n) (hn : n ≤ 1000000) (hs : s.size ≤ 1000000) (w : World) (hr : Rd .u64 w A xs) (hno : fok W V xs n s = false) : Calls Tryz.prog 27 #[fieldV W s, maskV V A n cap, .int .i64 size] w (AnsF W V xs n s size w) := by
  have e1 : gfindN W V xs n s size = 0 := by unfold gfindN gfindOk; rw [hno]; rfl
  have e2 : gfindL W V xs n s size = [] := by unfold gfindL gfindOk; rw [hno]; rfl
  have e3 : gfindE W V xs n s size = 220 := by unfold gfindE; rw [hno]; rfl
  unfold AnsF
  rw [e1, e2, e3]
  clear e1 e2 e3
  have hm := hr.1
  have ka := kept_alloc (kept_alloc (kept_refl w) (.cells #[.int .i64 W, .string s] 71)) (.cells #[.int .i64 V, .slice A n cap] 73)
  have hbf := blk_alloc (blk_new w (.cells #[.int .i64 W, .string s] 71)) (.cells #[.int .i64 V, .slice A n cap] 73)
  have hbm := blk_new1 w (.cells #[.int .i64 W, .string s] 71) (.cells #[.int .i64 V, .slice A n cap] 73)
  have R := fun w1 => fieldright_c W s (by omega) w1
  have M := fun w1 h => may_c V A cap n xs hu hl w1 h
  unfold fok at hno
  generalize rowsb W s.size = rb at *
  generalize mayb V xs n = mb at *
  have kf := kept_refl w
  go_enter Tryz.func27, Tryz.ntmps27
  go_wp2_with fail
  go_step3
  cases rb
  · go_wp2_with fail
    refine (R _).mono ?_
    rintro e w1 ⟨rfl, hk1⟩
    go_wp2_with fail
    rw [Exit.noGoto_ret]
    exact bodyPost_ret (v := .tuple #[.slice none 0 0, .int .i64 0, .int .i64 220]) (by simp [results, Tryz.results27, go_sem]) rfl ⟨_, rfl, Own2.nil _ _, kept_trans ka hk1⟩
  · cases mb
    · go_wp2_with fail
      refine (R _).mono ?_
      rintro e w1 ⟨rfl, hk1⟩
      have c0 := cell_at (blk_kept hk1 hbm) 0 rfl
      have c1 := cell_at (blk_kept hk1 hbm) 1 rfl
      go_wp2_with fail
      refine (M _ (hr.kept (kept_trans ka hk1))).mono ?_
      rintro e w2 ⟨rfl, hk2⟩
      go_wp2_with fail
      rw [Exit.noGoto_ret]
      exact bodyPost_ret (v := .tuple #[.slice none 0 0, .int .i64 0, .int .i64 220]) (by simp [results, Tryz.results27, go_sem]) rfl ⟨_, rfl, Own2.nil _ _, kept_trans ka (kept_trans hk1 hk2)⟩
    · cases hno
set_option maxRecDepth 100000 in
set_option maxHeartbeats 8000000 in
theorem find_small (F V : Nat) (A : Option Addr) (cap n : Nat) (xs : List Int) (s : ByteArray) (size : Int) (hu : U64 xs) (hl : xs.length = 4 * n) (hn : n ≤ 1000000) (hs : s.size ≤ 1000000) (w : World) (hr : Rd .u64 w A xs) (hmF : s.size % F = 0) (hmV : n % V = 0) (hh1 : 1 ≤ n / V) (hF : 1 ≤ F) (hF2 : F ≤ 64) (hV : 1 ≤ V) (hV2 : V ≤ 64) (hRR : s.size / F ≤ 64) (hhh : n / V ≤ 64) (hok : fok (F : Int) (V : Int) xs n s = true) (hno : fitb F V n s.size = false) : Calls Tryz.prog 27 #[fieldV (F : Int) s, maskV (V : Int) A n cap, .int .i64 size] w (AnsF (F : Int) (V : Int) xs n s size w) := by
  have e1 : gfindN (F : Int) (V : Int) xs n s size = 0 := by unfold gfindN gfindOk; rw [Int.toNat_natCast, Int.toNat_natCast, hok, hno]; rfl
  have e2 : gfindL (F : Int) (V : Int) xs n s size = [] := by unfold gfindL gfindOk; rw [Int.toNat_natCast, Int.toNat_natCast, hok, hno]; rfl
  have e3 : gfindE (F : Int) (V : Int) xs n s size = 0 := by unfold gfindE; rw [Int.toNat_natCast, Int.toNat_natCast, hok, hno]; rfl
  unfold AnsF
  rw [e1, e2, e3]
  clear e1 e2 e3
  have hm := hr.1
  have ka := kept_alloc (kept_alloc (kept_refl w) (.cells #[.int .i64 (F : Nat), .string s] 71)) (.cells #[.int .i64 (V : Nat), .slice A n cap] 73)
  have hbf := blk_alloc (blk_new w (.cells #[.int .i64 (F : Nat), .string s] 71)) (.cells #[.int .i64 (V : Nat), .slice A n cap] 73)
  have hbm := blk_new1 w (.cells #[.int .i64 (F : Nat), .string s] 71) (.cells #[.int .i64 (V : Nat), .slice A n cap] 73)
  have R := fun w1 => fieldright_c (F : Int) s (by omega) w1
  have M := fun w1 h => may_c (V : Int) A cap n xs hu hl w1 h
  unfold fok at hok
  rw [Bool.and_eq_true] at hok
  obtain ⟨hrb, hmb⟩ := hok
  rw [hrb] at R
  rw [hmb] at M
  clear hrb hmb
  have hzF : ((F : Int) == 0) = false := by rw [beq_eq_false_iff_ne]; omega
  have hzV : ((V : Int) == 0) = false := by rw [beq_eq_false_iff_ne]; omega
  have hqF := tdiv_nat s.size F
  have hqV := tdiv_nat n V
  generalize hRn : s.size / F = RR at *
  generalize hhn : n / V = hh at *
  go_enter Tryz.func27, Tryz.ntmps27
  go_wp2_with fail
  go_step3
  go_wp2_with fail
  refine (R _).mono ?_
  rintro e w1 ⟨rfl, hk1⟩
  have c0 := cell_at (blk_kept hk1 hbm) 0 rfl
  have c1 := cell_at (blk_kept hk1 hbm) 1 rfl
  go_wp2_with fail
  refine (M _ (hr.kept (kept_trans ka hk1))).mono ?_
  rintro e w2 ⟨rfl, hk2⟩
  replace hk2 := kept_trans hk1 hk2
  have c0 := cell_at (blk_kept hk2 hbm) 0 rfl
  have c1 := cell_at (blk_kept hk2 hbm) 1 rfl
  have d0 := cell_at (blk_kept hk2 hbf) 0 rfl
  have d1 := cell_at (blk_kept hk2 hbf) 1 rfl
  clear hk1 R M
  go_wp2_with fail
  have cs_0 := fun s => kw_cell s c0
  have cs_1 := fun s => kw_cell s c1
  have ds_0 := fun s => kw_cell s d0
  have ds_1 := fun s => kw_cell s d1
  refine wp_region_kept (by kernel_rfl) (by kernel_rfl) ?_
  repeat (first | go_big_quiet_skip | (go_big_quiet_want; go_big_quiet_op; go_big_quiet_on))
  refine wpQuiet_nil ?_
  rintro w3 ⟨⟨_, hk3⟩, rfl⟩
  replace hk3 := kept_trans hk2 hk3
  clear hk2 cs_0 cs_1 ds_0 ds_1 c0 c1 d0 d1
  have hd : (decide ((F : Int) - (V : Int) + 1 < 1) = true) ∨ (decide ((F : Int) - (V : Int) + 1 < 1) = false ∧ decide ((RR : Int) - (hh : Int) + 1 < 1) = true) := by
    unfold fitb at hno
    rw [hRn, hhn] at hno
    by_cases h1 : V ≤ F
    · by_cases h2 : hh ≤ RR
      · rw [decide_eq_true h1, decide_eq_true h2] at hno; cases hno
      · exact .inr ⟨decide_eq_false (by omega), decide_eq_true (by omega)⟩
    · exact .inl (decide_eq_true (by omega))
  clear hno hRn hhn
  rcases hd with d1 | ⟨d1, d2⟩
  · go_wp2_with fail
    rw [Exit.noGoto_ret]
    exact bodyPost_ret (v := .tuple #[.slice none 0 0, .int .i64 0, .int .i64 0]) (by simp [results, Tryz.results27, go_sem]) rfl ⟨_, rfl, Own2.nil _ _, kept_trans ka hk3⟩
  · go_wp2_with fail
    rw [Exit.noGoto_ret]
    exact bodyPost_ret (v := .tuple #[.slice none 0 0, .int .i64 0, .int .i64 0]) (by simp [results, Tryz.results27, go_sem]) rfl ⟨_, rfl, Own2.nil _ _, kept_trans ka hk3⟩
set_option maxRecDepth 100000 in
set_option maxHeartbeats 8000000 in
theorem find_size (F V : Nat) (A : Option Addr) (cap n : Nat) (xs : List Int) (s : ByteArray) (size : Int) (hu : U64 xs) (hl : xs.length = 4 * n) (hn : n ≤ 1000000) (hs : s.size ≤ 1000000) (w : World) (hr : Rd .u64 w A xs) (hmF : s.size % F = 0) (hmV : n % V = 0) (hh1 : 1 ≤ n / V) (hF : 1 ≤ F) (hF2 : F ≤ 64) (hV : 1 ≤ V) (hV2 : V ≤ 64) (hRR : s.size / F ≤ 64) (hhh : n / V ≤ 64) (hok : fok (F : Int) (V : Int) xs n s = true) (hfit : fitb F V n s.size = true) (hno : szb (longN F V n) size = false) : Calls Tryz.prog 27 #[fieldV (F : Int) s, maskV (V : Int) A n cap, .int .i64 size] w (AnsF (F : Int) (V : Int) xs n s size w) := by
  have e1 : gfindN (F : Int) (V : Int) xs n s size = 0 := by unfold gfindN gfindOk; rw [Int.toNat_natCast, Int.toNat_natCast, hok, hfit, hno]; rfl
  have e2 : gfindL (F : Int) (V : Int) xs n s size = [] := by unfold gfindL gfindOk; rw [Int.toNat_natCast, Int.toNat_natCast, hok, hfit, hno]; rfl
  have e3 : gfindE (F : Int) (V : Int) xs n s size = 50 := by unfold gfindE; rw [Int.toNat_natCast, Int.toNat_natCast, hok, hfit, hno]; rfl
  unfold AnsF
  rw [e1, e2, e3]
  clear e1 e2 e3
  have hm := hr.1
  have ka := kept_alloc (kept_alloc (kept_refl w) (.cells #[.int .i64 (F : Nat), .string s] 71)) (.cells #[.int .i64 (V : Nat), .slice A n cap] 73)
  have hbf := blk_alloc (blk_new w (.cells #[.int .i64 (F : Nat), .string s] 71)) (.cells #[.int .i64 (V : Nat), .slice A n cap] 73)
  have hbm := blk_new1 w (.cells #[.int .i64 (F : Nat), .string s] 71) (.cells #[.int .i64 (V : Nat), .slice A n cap] 73)
  have R := fun w1 => fieldright_c (F : Int) s (by omega) w1
  have M := fun w1 h => may_c (V : Int) A cap n xs hu hl w1 h
  unfold fok at hok
  rw [Bool.and_eq_true] at hok
  obtain ⟨hrb, hmb⟩ := hok
  rw [hrb] at R
  rw [hmb] at M
  clear hrb hmb
  have hzF : ((F : Int) == 0) = false := by rw [beq_eq_false_iff_ne]; omega
  have hzV : ((V : Int) == 0) = false := by rw [beq_eq_false_iff_ne]; omega
  have hqF := tdiv_nat s.size F
  have hqV := tdiv_nat n V
  generalize hRn : s.size / F = RR at *
  generalize hhn : n / V = hh at *
  go_enter Tryz.func27, Tryz.ntmps27
  go_wp2_with fail
  go_step3
  go_wp2_with fail
  refine (R _).mono ?_
  rintro e w1 ⟨rfl, hk1⟩
  have c0 := cell_at (blk_kept hk1 hbm) 0 rfl
  have c1 := cell_at (blk_kept hk1 hbm) 1 rfl
  go_wp2_with fail
  refine (M _ (hr.kept (kept_trans ka hk1))).mono ?_
  rintro e w2 ⟨rfl, hk2⟩
  replace hk2 := kept_trans hk1 hk2
  have c0 := cell_at (blk_kept hk2 hbm) 0 rfl
  have c1 := cell_at (blk_kept hk2 hbm) 1 rfl
  have d0 := cell_at (blk_kept hk2 hbf) 0 rfl
  have d1 := cell_at (blk_kept hk2 hbf) 1 rfl
  clear hk1 R M
  go_wp2_with fail
  have cs_0 := fun s => kw_cell s c0
  have cs_1 := fun s => kw_cell s c1
  have ds_0 := fun s => kw_cell s d0
  have ds_1 := fun s => kw_cell s d1
  refine wp_region_kept (by kernel_rfl) (by kernel_rfl) ?_
  repeat (first | go_big_quiet_skip | (go_big_quiet_want; go_big_quiet_op; go_big_quiet_on))
  refine wpQuiet_nil ?_
  rintro w3 ⟨⟨_, hk3⟩, rfl⟩
  replace hk3 := kept_trans hk2 hk3
  clear hk2 cs_0 cs_1 ds_0 ds_1 c0 c1 d0 d1
  unfold fitb at hfit
  rw [Bool.and_eq_true, decide_eq_true_eq, decide_eq_true_eq, hRn, hhn] at hfit
  obtain ⟨hVF, hhR⟩ := hfit
  have d1 : decide ((F : Int) - (V : Int) + 1 < 1) = false := decide_eq_false (by omega)
  have d2 : decide ((RR : Int) - (hh : Int) + 1 < 1) = false := decide_eq_false (by omega)
  have hLe : longN F V n = F * (hh - 1) + V := by rw [← hhn]; rfl
  have HLE := Lib.hid hLe
  have HRN := Lib.hid hRn
  have HHN := Lib.hid hhn
  clear hLe hRn hhn
  have c0 := cell_at (blk_kept hk3 hbm) 0 rfl
  have c1 := cell_at (blk_kept hk3 hbm) 1 rfl
  have f0 := cell_at (blk_kept hk3 hbf) 0 rfl
  have f1 := cell_at (blk_kept hk3 hbf) 1 rfl
  go_wp2_with fail
  have hB : w.heap.size + 1 < w3.heap.size := blk_lt' (blk_kept hk3 hbm)
  have hB0 : w.heap.size < w3.heap.size := by omega
  have hzV' : ¬ (V : Int) = 0 := by omega
  have hzV2 : ¬ V = 0 := by omega
  go_region_held3 (fun w' => w'.cell? ⟨w.heap.size, 0, none⟩ = some (.int .i64 (F : Nat)) ∧ w'.cell? ⟨w.heap.size + 1, 0, none⟩ = some (.int .i64 (V : Nat)) ∧ w'.cell? ⟨w.heap.size + 1, 1, none⟩ = some (.slice A n cap)) (go_keep) (fail)
  have hLw : IntKind.i64.wrap (IntKind.i64.wrap ((F : Int) * IntKind.i64.wrap ((hh : Int) - 1)) + (V : Int)) = ((longN F V n : Nat) : Int) := by rw [HLE.out]; exact long_wrap hF2 hV2 hh1 hhh
  have hwh : IntKind.i64.wrap (hh : Int) = (hh : Int) := by rw [IntKind.wrap_i64]; omega
  rw [hwh, hLw]
  clear hwh hLw hzV' hzV2
  replace ka := kept_trans ka hk3
  have kL := kept_alloc (kept_refl w3) (.cells #[.int .i64 (longN F V n : Nat)] 3)
  have hbL := blk_new w3 (.cells #[.int .i64 (longN F V n : Nat)] 3)
  have G := fun w1 => log_c size w1
  generalize hLL : longN F V n = L at *
  go_wp2_with fail
  refine (G _).mono ?_
  rintro e w5 ⟨rfl, hk5⟩
  have k35 := kept_trans (kept_drew kL) hk5
  replace hbL := blk_kept hk5 (blk_drew hbL)
  replace hbf := blk_kept k35 (blk_kept hk3 hbf)
  replace hbm := blk_kept k35 (blk_kept hk3 hbm)
  replace ka := kept_trans ka k35
  have l0 : w5.cell? ⟨w3.heap.size, 0, none⟩ = some (.int .i64 (L : Nat)) := cell_at hbL 0 rfl
  clear G kL hk3 hk5 k35 c0 c1 f0 f1 d1 d2 hB hB0
  generalize w3.heap.size = BL at *
  have hd : (hasLog size = false) ∨ (hasLog size = true ∧ decide (size < (L : Int)) = true) := by
    unfold szb at hno
    cases h : hasLog size
    · exact .inl rfl
    · rw [h] at hno
      refine .inr ⟨rfl, ?_⟩
      rw [Bool.true_and, decide_eq_false_iff_not] at hno
      exact decide_eq_true (by omega)
  clear hno hLL
  unfold Ltuple
  rcases hd with h1 | ⟨h1, h2⟩
  · rw [h1]
    go_wp2_with fail
    rw [Exit.noGoto_ret]
    exact bodyPost_ret (v := .tuple #[.slice none 0 0, .int .i64 0, .int .i64 50]) (by simp [results, Tryz.results27, go_sem]) rfl ⟨_, rfl, Own2.nil _ _, ka⟩
  · rw [h1]
    go_wp2_with fail
    rw [Exit.noGoto_ret]
    exact bodyPost_ret (v := .tuple #[.slice none 0 0, .int .i64 0, .int .i64 50]) (by simp [results, Tryz.results27, go_sem]) rfl ⟨_, rfl, Own2.nil _ _, ka⟩
set_option maxRecDepth 100000 in
set_option maxHeartbeats 16000000 in
theorem find_main (F V : Nat) (A : Option Addr) (cap n : Nat) (xs : List Int) (s : ByteArray) (size : Int) (hu : U64 xs) (hl : xs.length = 4 * n) (hn : n ≤ 1000000) (hs : s.size ≤ 1000000) (w : World) (hr : Rd .u64 w A xs) (hmF : s.size % F = 0) (hmV : n % V = 0) (hh1 : 1 ≤ n / V) (hF : 1 ≤ F) (hF2 : F ≤ 64) (hV : 1 ≤ V) (hV2 : V ≤ 64) (hRR : s.size / F ≤ 64) (hhh : n / V ≤ 64) (hok : fok (F : Int) (V : Int) xs n s = true) (hfit : fitb F V n s.size = true) (hyes : szb (longN F V n) size = true) : Calls Tryz.prog 27 #[fieldV (F : Int) s, maskV (V : Int) A n cap, .int .i64 size] w (AnsF (F : Int) (V : Int) xs n s size w) := by
  obtain ⟨i1, hif1, hy0, hy1, hy2⟩ := info_parts info_bool
  obtain ⟨i2, hif2, hz0, hz1, hz2⟩ := info_parts info_p2
  have hfk : gfindOk (F : Int) (V : Int) xs n s size = true := by unfold gfindOk; rw [Int.toNat_natCast, Int.toNat_natCast, hok, hfit, hyes]; rfl
  have e1 : gfindN (F : Int) (V : Int) xs n s size = ((kindsC xs n).length : Int) * countv (longN F V n) s.size size := by unfold gfindN; rw [if_pos hfk, Int.toNat_natCast, Int.toNat_natCast]
  have e2 : gfindL (F : Int) (V : Int) xs n s size = placesL xs n s F V ((s.size / F - n / V + 1) * F) := by unfold gfindL; rw [if_pos hfk, Int.toNat_natCast, Int.toNat_natCast]
  have e3 : gfindE (F : Int) (V : Int) xs n s size = 0 := by unfold gfindE; rw [Int.toNat_natCast, Int.toNat_natCast, hok, hfit, hyes]; rfl
  unfold AnsF
  rw [e1, e2, e3, Int.toNat_natCast]
  clear e1 e2 e3 hfk
  have hpos : ∀ k, k < n → posk F V k < longN F V n := fun k hk => long_pos hV (by unfold fitb at hfit; rw [Bool.and_eq_true, decide_eq_true_eq] at hfit; exact hfit.1) hk hmV
  have hLN : longN F V n ≤ s.size ∧ s.size - longN F V n + 1 = (s.size / F - n / V) * F + (F - V + 1) := by
    unfold fitb at hfit
    rw [Bool.and_eq_true, decide_eq_true_eq, decide_eq_true_eq] at hfit
    exact long_le hfit.1 hmF hh1 hfit.2
  have hnb : n ≤ 4096 := by
    have h1 := Nat.div_add_mod n V
    rw [hmV, Nat.add_zero] at h1
    have := Nat.mul_le_mul hV2 hhh
    omega
  have hL1 : 1 ≤ longN F V n := by unfold longN; omega
  have hm := hr.1
  have ka := kept_alloc (kept_alloc (kept_refl w) (.cells #[.int .i64 (F : Nat), .string s] 71)) (.cells #[.int .i64 (V : Nat), .slice A n cap] 73)
  have hbf := blk_alloc (blk_new w (.cells #[.int .i64 (F : Nat), .string s] 71)) (.cells #[.int .i64 (V : Nat), .slice A n cap] 73)
  have hbm := blk_new1 w (.cells #[.int .i64 (F : Nat), .string s] 71) (.cells #[.int .i64 (V : Nat), .slice A n cap] 73)
  have R := fun w1 => fieldright_c (F : Int) s (by omega) w1
  have M := fun w1 h => may_c (V : Int) A cap n xs hu hl w1 h
  unfold fok at hok
  rw [Bool.and_eq_true] at hok
  obtain ⟨hrb, hmb⟩ := hok
  rw [hrb] at R
  rw [hmb] at M
  clear hrb hmb
  have hzF : ((F : Int) == 0) = false := by rw [beq_eq_false_iff_ne]; omega
  have hzV : ((V : Int) == 0) = false := by rw [beq_eq_false_iff_ne]; omega
  have hqF := tdiv_nat s.size F
  have hqV := tdiv_nat n V
  generalize hRn : s.size / F = RR at *
  generalize hhn : n / V = hh at *
  go_enter Tryz.func27, Tryz.ntmps27
  go_wp2_with fail
  go_step3
  go_wp2_with fail
  refine (R _).mono ?_
  rintro e w1 ⟨rfl, hk1⟩
  have c0 := cell_at (blk_kept hk1 hbm) 0 rfl
  have c1 := cell_at (blk_kept hk1 hbm) 1 rfl
  go_wp2_with fail
  refine (M _ (hr.kept (kept_trans ka hk1))).mono ?_
  rintro e w2 ⟨rfl, hk2⟩
  replace hk2 := kept_trans hk1 hk2
  have c0 := cell_at (blk_kept hk2 hbm) 0 rfl
  have c1 := cell_at (blk_kept hk2 hbm) 1 rfl
  have d0 := cell_at (blk_kept hk2 hbf) 0 rfl
  have d1 := cell_at (blk_kept hk2 hbf) 1 rfl
  clear hk1 R M
  go_wp2_with fail
  have cs_0 := fun s => kw_cell s c0
  have cs_1 := fun s => kw_cell s c1
  have ds_0 := fun s => kw_cell s d0
  have ds_1 := fun s => kw_cell s d1
  refine wp_region_kept (by kernel_rfl) (by kernel_rfl) ?_
  repeat (first | go_big_quiet_skip | (go_big_quiet_want; go_big_quiet_op; go_big_quiet_on))
  refine wpQuiet_nil ?_
  rintro w3 ⟨⟨_, hk3⟩, rfl⟩
  replace hk3 := kept_trans hk2 hk3
  clear hk2 cs_0 cs_1 ds_0 ds_1 c0 c1 d0 d1
  unfold fitb at hfit
  rw [Bool.and_eq_true, decide_eq_true_eq, decide_eq_true_eq, hRn, hhn] at hfit
  obtain ⟨hVF, hhR⟩ := hfit
  have d1 : decide ((F : Int) - (V : Int) + 1 < 1) = false := decide_eq_false (by omega)
  have d2 : decide ((RR : Int) - (hh : Int) + 1 < 1) = false := decide_eq_false (by omega)
  have hLe : longN F V n = F * (hh - 1) + V := by rw [← hhn]; rfl
  have HLE := Lib.hid hLe
  have HRN := Lib.hid hRn
  have HHN := Lib.hid hhn
  clear hLe hRn hhn
  have c0 := cell_at (blk_kept hk3 hbm) 0 rfl
  have c1 := cell_at (blk_kept hk3 hbm) 1 rfl
  have f0 := cell_at (blk_kept hk3 hbf) 0 rfl
  have f1 := cell_at (blk_kept hk3 hbf) 1 rfl
  go_wp2_with fail
  have hB : w.heap.size + 1 < w3.heap.size := blk_lt' (blk_kept hk3 hbm)
  have hB0 : w.heap.size < w3.heap.size := by omega
  have hzV' : ¬ (V : Int) = 0 := by omega
  have hzV2 : ¬ V = 0 := by omega
  go_region_held3 (fun w' => w'.cell? ⟨w.heap.size, 0, none⟩ = some (.int .i64 (F : Nat)) ∧ w'.cell? ⟨w.heap.size + 1, 0, none⟩ = some (.int .i64 (V : Nat)) ∧ w'.cell? ⟨w.heap.size + 1, 1, none⟩ = some (.slice A n cap)) (go_keep) (fail)
  have hLw : IntKind.i64.wrap (IntKind.i64.wrap ((F : Int) * IntKind.i64.wrap ((hh : Int) - 1)) + (V : Int)) = ((longN F V n : Nat) : Int) := by rw [HLE.out]; exact long_wrap hF2 hV2 hh1 hhh
  have hwh : IntKind.i64.wrap (hh : Int) = (hh : Int) := by rw [IntKind.wrap_i64]; omega
  rw [hwh, hLw]
  clear hwh hLw hzV' hzV2
  replace ka := kept_trans ka hk3
  have kL := kept_alloc (kept_refl w3) (.cells #[.int .i64 (longN F V n : Nat)] 3)
  have hbL := blk_new w3 (.cells #[.int .i64 (longN F V n : Nat)] 3)
  have G := fun w1 => log_c size w1
  generalize hLL : longN F V n = L at *
  go_wp2_with fail
  refine (G _).mono ?_
  rintro e w5 ⟨rfl, hk5⟩
  have k35 := kept_trans (kept_drew kL) hk5
  replace hbL := blk_kept hk5 (blk_drew hbL)
  replace hbf := blk_kept k35 (blk_kept hk3 hbf)
  replace hbm := blk_kept k35 (blk_kept hk3 hbm)
  replace ka := kept_trans ka k35
  have l0 : w5.cell? ⟨w3.heap.size, 0, none⟩ = some (.int .i64 (L : Nat)) := cell_at hbL 0 rfl
  clear G kL hk3 hk5 k35 c0 c1 f0 f1 d1 d2 hB hB0
  generalize w3.heap.size = BL at *
  have hsz := hyes
  unfold szb at hyes
  rw [Bool.and_eq_true, decide_eq_true_eq] at hyes
  obtain ⟨hlog, hle⟩ := hyes
  have d3 : decide (size < (L : Int)) = false := decide_eq_false (by omega)
  unfold Ltuple
  rw [hlog]
  clear hlog hle
  have f1 : w5.cell? ⟨w.heap.size, 1, none⟩ = some (.string s) := cell_at hbf 1 rfl
  go_wp2_with (refine wpList_make_full _ rfl (.tmp 90) (.tmp 90) 125 rfl w5.heap.size 4 i1 (.bool false) 1 Tryz.underlying125 hif1 hy0 hy1 .i64 .i64 _ _ s.size rfl rfl (by simp) (by simp) ?b2 ?b3 ?b4 ?_)
  case b2 => rw [hy2]; omega
  case b3 => unfold maxLen; omega
  case b4 => simp
  intro w6 hown6 hgrow
  have K6 := (kept_refl w5).grown hgrow (Nat.le_refl _) (fun k h => by cases h)
  rw [toList_madeCells_one, ← strR_false] at hown6
  have g0 := cell_at (blk_kept K6 hbm) 0 rfl
  have g1 := cell_at (blk_kept K6 hbm) 1 rfl
  have KD := kinds_c (V : Int) A cap n xs hu hl hn w6 (hr.kept (kept_trans ka K6))
  clear hgrow l0 f1 d3
  go_wp2_with fail
  refine KD.mono ?_
  rintro e w7 ⟨v7, rfl, ownK, hk7⟩
  have hown7 := rowKept hown6 hk7
  have K7 := kept_trans K6 hk7
  have hg15 : w5.heap.size < w6.heap.size := (World.ownsRow.lt hown6 w5.heap.size rfl).2
  have hkl := kindsC_le xs n
  obtain ⟨A7, c7, rfl, hc7, rd7⟩ := ownN_rd ownK (flatC_length _) (by rw [flatC_length]; omega)
  clear KD g0 g1 hown6 hk7 rd7 K6
  have hokx : ∀ q, q < (kindsC xs n).length → (cls (flatC (kindsC xs n)) q).ok := fun q hq => by
    rw [flatC_cls _ q hq]
    obtain ⟨_, k, _, e⟩ := mem_kinds.1 (List.getElem_mem hq)
    rw [← e]
    exact cls_ok hu k
  have hS0 : ∀ i, struckT xs F V L n s 0 i = false := struckT_zero xs F V L n s
  have hSS : ∀ q i, q < (kindsC xs n).length → struckT xs F V L n s (q + 1) i = (struckT xs F V L n s q i || badC xs F V L n s (cls (flatC (kindsC xs n)) q) i) := fun q i hq => by rw [flatC_cls _ q hq]; exact struckT_succ hq i
  have hfl := flatC_length (kindsC xs n)
  have hML : s.size - L + 1 ≤ s.size := by omega
  have hbad : ∀ x i, badC xs F V L n s x i = (decide (i < s.size - L + 1) && !(nth (slidev (nth (rowN xs F V x L n)) (nth (marksv s x)) L s.size) i == ((cntN xs x n : Nat) : Int))) := fun x i => rfl
  have hkeep : ∀ i, i < s.size - L + 1 → keepb xs n s F V i = (decide (i % F < F - V + 1) && !struckT xs F V L n s (kindsC xs n).length i) := fun i hi => by
    rw [struck_stands hV hVF hLN.1 hn hpos hi, Bool.not_not]; rfl
  have hple := placesL_le xs n s F V
  have hpl0 : placesL xs n s F V 0 = [] := rfl
  have hpl1 : ∀ q, keepb xs n s F V q = true → placesL xs n s F V (q + 1) = placesL xs n s F V q ++ [q] := fun q h => placesL_yes h
  have hpl2 : ∀ q, keepb xs n s F V q = false → placesL xs n s F V (q + 1) = placesL xs n s F V q := fun q h => placesL_no h
  have hple2 : placesL xs n s F V (s.size - L + 1) = placesL xs n s F V ((RR - hh + 1) * F) := by rw [hLN.2]; exact placesL_row hV hVF (RR - hh)
  have HOK := Lib.hid hokx
  have HS0 := Lib.hid hS0
  have HSS := Lib.hid hSS
  have HBAD := Lib.hid hbad
  have HKEEP := Lib.hid hkeep
  have HPLE := Lib.hid hple
  have HPL0 := Lib.hid hpl0
  have HPL1 := Lib.hid hpl1
  have HPL2 := Lib.hid hpl2
  have HPE := Lib.hid hple2
  have HLN := Lib.hid hLN.2
  have hLs := hLN.1
  clear hokx hS0 hSS hbad hkeep hple hpl0 hpl1 hpl2 hple2 hLN HLE
  generalize badC xs F V L n s = bdx at *
  generalize keepb xs n s F V = kpb at *
  generalize hfpl : placesL xs n s F V = pl at *
  have HFPL := Lib.hid hfpl
  clear hfpl
  generalize struckT xs F V L n s = sT at *
  generalize flatC (kindsC xs n) = fl at *
  generalize hkm : (kindsC xs n).length = m at *
  have HKM := Lib.hid hkm
  have HLL := Lib.hid hLL
  clear hkm hLL
  have hCb := countv_bd (L : Int) (s.size : Int) size
  generalize hCC : countv (L : Int) (s.size : Int) size = C at *
  have HCC := Lib.hid hCC
  clear hCC
  generalize hNN : s.size = N at *
  have HNN := Lib.hid hNN
  clear hNN
  generalize hMM : N - L + 1 = M at *
  have HMM := Lib.hid hMM
  have hM1 : 1 ≤ M := by omega
  clear hMM
  have hown8 : w7.ownsRow w5.heap.size 4 1 (.slice (some ⟨w5.heap.size, 0, none⟩) N N) N (strR N (sT 0)) := by
    rw [strR_congr fun i _ => HS0.out i]; exact hown7
  clear hown7
  go_wp2_with fail
  go_loopw [16, 95] (fun a i wr => ∃ q : Nat, q ≤ m ∧ i = .int .i64 q ∧ (∃ a0 : Int, a = .int .i64 a0 ∧ Hid (a0 = (q : Int) * C)) ∧ wr.ownsRow w5.heap.size 4 1 (.slice (some ⟨w5.heap.size, 0, none⟩) N N) N (strR N (sT q)) ∧ wr.ownsRow w6.heap.size 110 4 (.slice A7 m c7) m (fl.map (Value.int .u64)) ∧ Kept w5 wr) (fun _ i _ => m - (intOf i).toNat)
  case atStart => exact ⟨0, Nat.zero_le _, rfl, ⟨0, rfl, Lib.hid (by simp)⟩, hown8, ownK, K7⟩
  case round =>
    clear hown8 ownK K7
    obtain ⟨q, hq, rfl, ⟨a0, rfl, HA⟩, hown, ownK, hk⟩ := hrel
    by_cases hlt : q < m
    · obtain ⟨A', c', e', _, rd⟩ := ownN_rd ownK hfl (by omega)
      simp only [Value.slice.injEq] at e'
      obtain ⟨rfl, _, rfl⟩ := e'
      obtain ⟨ad, rfl, d0, d1, d2, d3⟩ := rd.cl hfl hlt
      have hxok := HOK.out q hlt
      have hS1 := fun i => HSS.out q i hlt
      have HS1 := Lib.hid hS1
      clear hS1 rd
      have hA := HA.out
      have hab : 0 ≤ a0 ∧ a0 ≤ 4096 * 8796093022208 := by
        rw [hA]
        exact ⟨Int.mul_nonneg (by omega) hCb.1, Int.mul_le_mul (by omega) hCb.2 hCb.1 (by decide)⟩
      have hA1 : a0 + C = ((q + 1 : Nat) : Int) * C := by rw [hA, Int.natCast_add, Int.add_mul]; simp
      have HA1 := Lib.hid hA1
      clear hA hA1
      generalize cls fl q = x at *
      have hgd : bgood (rowN xs F V x L n) (marksv s x) size := row_good hL1 (by rw [HNN.out]; exact hLs) (by rw [HNN.out]; exact hs) hsz
      obtain ⟨hbv, hbc⟩ := bval_good hgd
      rw [rowN_len, marksv_len, HNN.out] at hbv hbc
      have hpsl := rowN_len xs F V x L n
      have htsl := marksv_len s x
      rw [HNN.out] at htsl
      have u1 := (small_row (rowN_small xs F V x L n)).1
      have u2 := (small_row (marksv_small s x)).1
      have herr := hgd.1
      have hbx := HBAD.out x
      have hhl : (slidev (nth (rowN xs F V x L n)) (nth (marksv s x)) L N).length = M := by rw [← HMM.out]; exact mk_length _ _
      have kb := kept_alloc (kept_refl wr) x.cells
      have hbb := blk_new wr x.cells
      have kx := kept_trans hk kb
      have FR := findrow_c x hxok F V L s A cap n xs hu hl hn hV (by omega) hpos BL (w.heap.size + 1) w.heap.size (wr.alloc x.cells) (hr.kept (kept_trans ka kx)) (blk_kept kx hbL) (blk_kept kx hbm) (blk_kept kx hbf)
      have MK := fun w1 => marks_c s x hxok (by rw [HNN.out]; exact hs) w1
      clear hgd
      generalize slidev (nth (rowN xs F V x L n)) (nth (marksv s x)) L N = hv at *
      generalize rowN xs F V x L n = ps at *
      generalize marksv s x = ts at *
      generalize cntN xs x n = cn at *
      generalize bdx x = bd at *
      have HBX := Lib.hid hbx
      clear hbx
      obtain ⟨x0, x1, x2, x3⟩ := x
      dsimp only [Cl.v, Cl.cells] at d0 d1 d2 d3 FR MK kb hbb kx
      go_wp2_with fail
      refine FR.mono ?_
      rintro e w8 ⟨v8, rfl, own8, hk8⟩
      obtain ⟨A8, c8, rfl, h8, _, rd8⟩ := own8.rd
      have k8 := kept_trans kx hk8
      have hbb8 := blk_kept hk8 hbb
      have c0 : w8.cell? ⟨wr.heap.size, 0, none⟩ = some (.int .u64 x0) := cell_at hbb8 0 rfl
      have c1 : w8.cell? ⟨wr.heap.size, 1, none⟩ = some (.int .u64 x1) := cell_at hbb8 1 rfl
      have c2 : w8.cell? ⟨wr.heap.size, 2, none⟩ = some (.int .u64 x2) := cell_at hbb8 2 rfl
      have c3 : w8.cell? ⟨wr.heap.size, 3, none⟩ = some (.int .u64 x3) := cell_at hbb8 3 rfl
      have f1 : w8.cell? ⟨w.heap.size, 1, none⟩ = some (.string s) := cell_at (blk_kept k8 hbf) 1 rfl
      clear FR d0 d1 d2 d3
      go_wp2_with fail
      refine (MK _).mono ?_
      rintro e w9 ⟨v9, rfl, own9, hk9⟩
      obtain ⟨A9, c9, rfl, h9, _, rd9⟩ := own9.rd
      have CR := correlate_c5 A8 A9 c8 c9 ps ts size u1 u2 (by omega) (by omega) h9 w9 (rd8.kept hk9) rd9
      rw [hbv, hbc, herr, hpsl, htsl, HCC.out] at CR
      clear MK c0 c1 c2 c3 f1
      go_wp2_with fail
      refine CR.mono ?_
      rintro e w10 ⟨A10, c10, rfl, rd10, hk10, _, _, own10⟩
      clear CR
      have kk := kept_trans kb (kept_trans hk8 (kept_trans hk9 hk10))
      have hownA := rowKept hown kk
      have ownKA := rowKept ownK kk
      replace hk := kept_trans hk kk
      obtain ⟨gh, ch, e10⟩ := own10.pos (by omega)
      simp only [Value.slice.injEq] at e10
      obtain ⟨rfl, _, rfl⟩ := e10
      have hgh : w5.heap.size < gh := by
        have h1 := (World.ownsRow.lt own10 gh rfl).1
        have h2 := hk8.size
        have h3 := hk9.size
        have h4 := kx.size
        have h5 := (World.ownsRow.lt hown w5.heap.size rfl).2
        have h6 := kb.size
        omega
      clear hown ownK own8 own9 rd8 rd9 rd10 hk8 hk9 hk10 kk kb kx k8 hbb hbb8
      unfold Own at own10
      rw [hhl] at own10 ⊢
      have hown0 : w10.ownsRow w5.heap.size 4 1 (.slice (some ⟨w5.heap.size, 0, none⟩) N N) N (strR N (stepT (sT q) bd 0)) := by
        rw [strR_congr (g := sT q) fun i _ => by simp [stepT]]; exact hownA
      have HHL := Lib.hid hhl
      clear hownA hpsl htsl herr u1 u2 hbv hbc h8 h9 hhl
      go_wp2_with fail
      go_loopw [121] (fun i w2 => ∃ p : Nat, p ≤ M ∧ i = .int .i64 p ∧ w2.ownsRow w5.heap.size 4 1 (.slice (some ⟨w5.heap.size, 0, none⟩) N N) N (strR N (stepT (sT q) bd p)) ∧ w2.ownsRow w6.heap.size 110 4 (.slice (some ad) m c7) m (fl.map (Value.int .u64)) ∧ w2.ownsRow w9.heap.size 108 1 (.slice (some ⟨gh, 0, none⟩) M c10) M (hv.map (Value.int .u64)) ∧ Kept w5 w2) (fun i _ => M - (intOf i).toNat)
      case atStart => exact ⟨0, Nat.zero_le _, rfl, hown0, ownKA, own10, hk⟩
      case round =>
        clear hown0 ownKA own10 hk
        obtain ⟨p, hp, rfl, hown, ownK, ownH, hk⟩ := hrel
        by_cases hpl : p < M
        · have hpN : p < N := by omega
          have e0 := World.ownsRow.cellAt hown p (by omega)
          rw [strR_at _ _ hpN, show stepT (sT q) bd p p = sT q p by simp [stepT]] at e0
          have f0 := World.ownsRow.frozenAt hown p
          have y0 := World.ownsRow.cellAt ownH p (by omega)
          rw [List.getElem?_map, List.getElem?_eq_getElem (by rw [HHL.out]; exact hpl), Option.map_some, ← nth_lt (by rw [HHL.out]; exact hpl)] at y0
          have S := World.ownsRow.stored hown p (.bool (sT q p || bd p))
          rw [strR_set hpN] at S
          have hb := HBX.out p
          rw [decide_eq_true hpl, Bool.true_and] at hb
          generalize nth hv p = y at *
          generalize sT q p = b1 at *
          generalize bd p = b2 at *
          have ea : (⟨w5.heap.size, 0, none⟩ : Addr).add p = ⟨w5.heap.size, p, none⟩ := by unfold Addr.add; split <;> simp_all
          have ea2 : (⟨gh, 0, none⟩ : Addr).add p = ⟨gh, p, none⟩ := by unfold Addr.add; split <;> simp_all
          have ownH2 := World.ownsRow.kept ownH S.2 (.inr (by simp [Value.ownBlock]; omega))
          have ownK2 := World.ownsRow.kept ownK S.2 (.inr (by
            have := own_farN ownK hg15
            exact fun e => this e.symm))
          have K2 := kept_grown hk hown (Nat.le_refl _) S.2
          have S1 := S.1
          clear S hown ownH ownK hk
          cases b1
          · have hyc : (y == ((cn : Nat) : Int)) = !b2 := by rw [hb, Bool.not_not]
            have hyc2 : (y != ((cn : Nat) : Int)) = b2 := by rw [hb]; rfl
            rw [Bool.false_or] at S1 ownH2 ownK2 K2
            clear hb
            go_wp2_with fail
            exact ⟨⟨p + 1, by omega, by go_num, S1, ownK2, ownH2, K2⟩, by simp [intOf]; omega⟩
          · rw [Bool.true_or] at S1 ownH2 ownK2 K2
            clear hb
            go_wp2_with fail
            exact ⟨⟨p + 1, by omega, by go_num, S1, ownK2, ownH2, K2⟩, by simp [intOf]; omega⟩
        · obtain rfl : p = M := by omega
          have hown1 : wr.ownsRow w5.heap.size 4 1 (.slice (some ⟨w5.heap.size, 0, none⟩) N N) N (strR N (sT (q + 1))) := by
            rw [strR_congr (g := stepT (sT q) bd p) fun i _ => ?_]
            · exact hown
            · rw [HS1.out i]
              unfold stepT
              have := HBX.out i
              by_cases hi : i < p
              · rw [decide_eq_true hi, Bool.true_and]
              · rw [decide_eq_false hi, Bool.false_and] at this
                rw [this, decide_eq_false hi, Bool.false_and]
          clear hown ownH
          go_wp2_with fail
          exact ⟨⟨q + 1, by omega, by go_num, ⟨_, rfl, HA1⟩, hown1, ownK, hk⟩, by simp [intOf]; omega⟩
    · obtain rfl : q = m := by omega
      clear ownK HSS HBAD HOK HS0
      have f0 : wr.cell? ⟨w.heap.size, 0, none⟩ = some (.int .i64 (F : Nat)) := cell_at (blk_kept hk hbf) 0 rfl
      go_wp2_with fail
      go_step3
      go_wp2_with fail
      have hMw := m_wrap hF2 hVF hhR hRR
      rw [← HLN.out] at hMw
      rw [hMw]
      have hsz5 : w5.heap.size < wr.heap.size := (World.ownsRow.lt hown w5.heap.size rfl).2
      have hB5 : w.heap.size < w5.heap.size := blk_lt' hbf
      have hMb : M ≤ 4096 := by
        have h1 := HLN.out
        have h2 := Nat.mul_le_mul (show RR - hh ≤ 63 by omega) hF2
        omega
      clear hMw f0
      go_loopw [26, 147] (fun v i w2 => ∃ p : Nat, p ≤ M ∧ i = .int .i64 p ∧ w2.ownsRow (w5.heap.size + 1) 131 2 v (pl p).length ((flatP F (pl p)).map (Value.int .i64)) ∧ w2.ownsRow w5.heap.size 4 1 (.slice (some ⟨w5.heap.size, 0, none⟩) N N) N (strR N (sT q)) ∧ Kept w5 w2) (fun _ i _ => M - (intOf i).toNat)
      case atStart => exact ⟨0, Nat.zero_le _, rfl, by rw [HPL0.out]; exact World.ownsRow_nil _ _ _ _, hown, hk⟩
      case round =>
        clear hown hk hsz5
        obtain ⟨p, hp, rfl, hownO, hown, hk⟩ := hrel
        by_cases hpl : p < M
        · have hpN : p < N := by omega
          have e0 := World.ownsRow.cellAt hown p (by omega)
          rw [strR_at _ _ hpN] at e0
          have hkp := HKEEP.out p hpl
          have hp1 := HPL1.out p
          have hp2 := HPL2.out p
          have hpb := HPLE.out p
          have ea : (⟨w5.heap.size, 0, none⟩ : Addr).add p = ⟨w5.heap.size, p, none⟩ := by unfold Addr.add; split <;> simp_all
          cases hst : sT q p
          · rw [hst] at e0 hkp
            have f0 : wr.cell? ⟨w.heap.size, 0, none⟩ = some (.int .i64 (F : Nat)) := cell_at (blk_kept hk hbf) 0 rfl
            have e1 := tmod_nat p F
            have e2 := tdiv_nat p F
            have e3 : (p : Int) % (F : Int) = ((p % F : Nat) : Int) := (Int.natCast_emod _ _).symm
            have e4 : (p : Int) / (F : Int) = ((p / F : Nat) : Int) := (Int.natCast_ediv _ _).symm
            have b1 : p / F ≤ p := Nat.div_le_self _ _
            have hO1 := flatP_append F (pl p) [p]
            rw [flatP_one] at hO1
            by_cases hc : p % F < F - V + 1
            · have hd : decide ((F : Int) - (V : Int) + 1 ≤ ((p % F : Nat) : Int)) = false := decide_eq_false (by omega)
              rw [decide_eq_true hc] at hkp
              have hpn := hp1 hkp
              have HPN := Lib.hid hpn
              have HO1 := Lib.hid hO1
              clear hp1 hp2 hkp hpn hO1 hc
              have hzF' : ¬ (F : Int) = 0 := by omega
              have hzF2 : ¬ F = 0 := by omega
              have hwr : w.heap.size < wr.heap.size := by have := hk.size; omega
              have hw5r : w5.heap.size < wr.heap.size := (World.ownsRow.lt hown w5.heap.size rfl).2
              generalize p % F = r at *
              generalize p / F = d at *
              have hd0 : (0 : Int) ≤ (d : Int) := Int.natCast_nonneg _
              have hd1 : (d : Int) ≤ 4096 := by omega
              have hwd : IntKind.i64.wrap (d : Int) = (d : Int) := by rw [IntKind.wrap_i64]; omega
              go_wp2_with fail
              go_region_held3 (fun w' => w'.cell? ⟨w.heap.size, 0, none⟩ = some (.int .i64 (F : Nat))) (first | go_keep | (rw [hgrow.cell_far _ (by simp; omega) (own_farN (g := w.heap.size) hownO (Nat.lt_succ_of_lt hB5))]; assumption)) ((refine step_append_lies _ (by rfl) _ _ _ (by rfl) (w5.heap.size + 1) 131 i2 _ 2 16 Tryz.underlying67 hif2 hz0 hz1 hz2 rfl (by omega) _ (pl p).length _ (by rfl) ((World.ownsRow.alloc hownO _).drew) ⟨wr.heap.size, 0, none⟩ 1 1 [.int .i64 (r : Nat), .int .i64 (d : Nat)] (by rfl) (by rfl) (World.news_of_block (cs := #[.int .i64 (r : Nat), .int .i64 (d : Nat)]) (t := 131) (fr := (0, 0)) (heap_alloc_new wr _)) (by simp [Value.oneCell']) (by omega) (by unfold maxLen; omega) (by omega) (by simp; omega) (wr.heap.size + 1) (by simp) ?_; intro g cap w1 hown1 hgrow hat hlt'))
              have K2 := kept_grown (kept_drew (kept_alloc hk _)) ((World.ownsRow.alloc hownO _).drew) (show w5.heap.size ≤ w5.heap.size + 1 from Nat.le_succ _) hgrow
              have hown2 := World.ownsRow.kept ((World.ownsRow.alloc hown _).drew) hgrow (.inr (own_farN (g := w5.heap.size) hownO (Nat.lt_succ_self _)))
              have hownP : w1.ownsRow (w5.heap.size + 1) 131 2 (.slice (some ⟨g, 0, none⟩) ((pl p).length + 1) cap) (pl (p + 1)).length ((flatP F (pl (p + 1))).map (Value.int .i64)) := by
                rw [HPN.out, HO1.out, List.map_append, List.length_append]; exact hown1
              clear hown1 hgrow hownO hown hk hat hlt' e0 e1 e2 e3 e4 hd hd0 hd1 hwd f0 HO1 HPN hpb
              go_wp2_with fail
              exact ⟨⟨p + 1, by omega, by go_num, hownP, hown2, K2⟩, by simp [intOf]; omega⟩
            · have hd : decide ((F : Int) - (V : Int) + 1 ≤ ((p % F : Nat) : Int)) = true := decide_eq_true (by omega)
              rw [decide_eq_false hc] at hkp
              have HPN := Lib.hid (hp2 hkp)
              clear hp1 hp2 hkp hO1 hc
              generalize p % F = r at *
              go_wp2_with fail
              exact ⟨⟨p + 1, by omega, by go_num, by rw [HPN.out]; exact hownO, hown, hk⟩, by simp [intOf]; omega⟩
          · rw [hst] at e0 hkp
            have hpn : pl (p + 1) = pl p := hp2 (by rw [hkp]; simp)
            have HPN := Lib.hid hpn
            clear hp1 hp2 hkp hpn
            go_wp2_with fail
            exact ⟨⟨p + 1, by omega, by go_num, by rw [HPN.out]; exact hownO, hown, hk⟩, by simp [intOf]; omega⟩
        · obtain rfl : p = M := by omega
          obtain rfl : a0 = (q : Int) * C := HA.out
          have hfin : ((kindsC xs n).length : Int) * countv (longN F V n : Nat) (s.size : Nat) size = (q : Int) * C := by rw [HKM.out, HLL.out, HNN.out, HCC.out]
          have hplf : placesL xs n s F V ((RR - hh + 1) * F) = pl p := by rw [HFPL.out, HPE.out]
          go_wp2_with fail
          rw [hfin, hplf]
          try rw [Exit.noGoto_ret]
          exact bodyPost_ret (v := .tuple #[u26, .int .i64 ((q : Int) * C), .int .i64 0]) (by simp [results, Tryz.results27, go_sem]) rfl ⟨_, rfl, World.ownsRow.less2 hownO (by have := ka.size; omega), kept_trans ka hk⟩
theorem fok_parts {W V : Int} {xs : List Int} {n : Nat} {s : ByteArray} (h : fok W V xs n s = true) : ∃ F K : Nat, W = (F : Int) ∧ V = (K : Int) ∧ 1 ≤ F ∧ F ≤ 64 ∧ 1 ≤ K ∧ K ≤ 64 ∧ s.size % F = 0 ∧ n % K = 0 ∧ 1 ≤ n / K ∧ n / K ≤ 64 ∧ s.size / F ≤ 64 ∧ rowsb (F : Int) s.size = true ∧ mayb (K : Int) xs n = true := by
  unfold fok at h
  rw [Bool.and_eq_true] at h
  obtain ⟨h1, h2⟩ := h
  have h1' : 1 ≤ W ∧ W ≤ 64 ∧ s.size % W.toNat = 0 ∧ s.size ≤ 64 * W.toNat := of_decide_eq_true h1
  have h3 := h2
  unfold mayb at h3
  rw [Bool.and_eq_true, Bool.and_eq_true, decide_eq_true_eq] at h3
  obtain ⟨⟨h3, h4⟩, _⟩ := h3
  have h3' : 1 ≤ V ∧ V ≤ 64 ∧ n % V.toNat = 0 ∧ n ≤ 64 * V.toNat := of_decide_eq_true h3
  obtain ⟨F, rfl⟩ : ∃ F : Nat, W = (F : Int) := ⟨W.toNat, by omega⟩
  obtain ⟨K, rfl⟩ : ∃ K : Nat, V = (K : Int) := ⟨V.toNat, by omega⟩
  rw [Int.toNat_natCast] at h1' h3'
  have hF : 1 ≤ F := by omega
  have hK : 1 ≤ K := by omega
  have hd := (div_le64 (n := n) (W := K) (by omega) h3'.2.2.1).2 h3'.2.2.2
  have hd2 := (div_le64 (n := s.size) (W := F) (by omega) h1'.2.2.1).2 h1'.2.2.2
  have hp : 1 ≤ n / K := by
    have h := Nat.div_add_mod n K
    rw [h3'.2.2.1, Nat.add_zero] at h
    rcases Nat.eq_zero_or_pos (n / K) with h0 | h0
    · rw [h0, Nat.mul_zero] at h; omega
    · exact h0
  exact ⟨F, K, rfl, rfl, hF, by omega, hK, by omega, h1'.2.2.1, h3'.2.2.1, hp, hd, hd2, h1, h2⟩
theorem gfind_c (W V : Int) (A : Option Addr) (cap n : Nat) (xs : List Int) (s : ByteArray) (size : Int) (hu : U64 xs) (hl : xs.length = 4 * n) (hn : n ≤ 1000000) (hs : s.size ≤ 1000000) (w : World) (hr : Rd .u64 w A xs) : Calls Tryz.prog 27 #[fieldV W s, maskV V A n cap, .int .i64 size] w (AnsF W V xs n s size w) := by
  cases hok : fok W V xs n s
  · exact find_form W V A cap n xs s size hu hl hn hs w hr hok
  · obtain ⟨F, K, rfl, rfl, hF, hF2, hK, hK2, hmF, hmK, h1, h2, h3, _, _⟩ := fok_parts hok
    cases hfit : fitb F K n s.size
    · exact find_small F K A cap n xs s size hu hl hn hs w hr hmF hmK h1 hF hF2 hK hK2 h3 h2 hok hfit
    · cases hz : szb (longN F K n) size
      · exact find_size F K A cap n xs s size hu hl hn hs w hr hmF hmK h1 hF hF2 hK hK2 h3 h2 hok hfit hz
      · exact find_main F K A cap n xs s size hu hl hn hs w hr hmF hmK h1 hF hF2 hK hK2 h3 h2 hok hfit hz
end Go.Proofs.YtdejablhpljdfaaGreat
