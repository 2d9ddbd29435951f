/-
  Texts of one claim, joined: TMatch2.
-/
import Derived.Test.YtdejablhpljdfaaGreatC23
namespace Go.Proofs.YtdejablhpljdfaaGreat
open Go.RowKit BG
attribute [local go_sem ↓] Go.wp_at_zero Go.wp_at_succ run_max_at run_min_at
set_option linter.unusedVariables false
def waL (way : Nat) (xs : List Int) (n : Nat) (K : Int) (s : ByteArray) (size : Int) : List Int := if way = 1 then hitsv (countsv xs n K s) K else if way = 2 then zedF (lettersS xs n) s else if way = 3 then findL xs n K s size else if way = 4 then symF xs n K s size else splF xs n K s size
def waN (way : Nat) (xs : List Int) (n : Nat) (K : Int) (N : Nat) (size : Int) : Int := if way = 1 then 0 else if way = 2 then 0 else if way = 3 then findN xs n K N size else if way = 4 then symN xs n K N size else splN xs n K N size
def waE (way : Nat) (xs : List Int) (n : Nat) (K : Int) (N : Nat) (size : Int) : Int := if way = 1 then 0 else if way = 2 then 0 else if way = 3 then findE xs n K N size else if way = 4 then symE xs n K N size else splEr xs n K N size
def mFL (way : Nat) (xs : List Int) (n : Nat) (K : Int) (s : ByteArray) (size : Int) : List Int := if matE way xs n K s.size size = 0 then waL way xs n K s size else []
def mFN (way : Nat) (xs : List Int) (n : Nat) (K : Int) (N : Nat) (size : Int) : Int := if matE way xs n K N size = 0 then waN way xs n K N size else 0
def mFE (way : Nat) (xs : List Int) (n : Nat) (K : Int) (N : Nat) (size : Int) : Int := if matE way xs n K N size = 0 then waE way xs n K N size else matE way xs n K N size
def waC (way : Nat) (xs : List Int) (n : Nat) (K : Int) (s : ByteArray) (size : Int) : List Int := if way = 1 then countsv xs n K s else if way = 4 then symL xs n K s size else splL xs n K s size
def tells (way : Nat) : Bool := way != 2 && way != 3
def mcE (way : Nat) (xs : List Int) (n : Nat) (K N size : Int) : Int := if tells way = true then matE way xs n K N size else 170
def mCL (way : Nat) (xs : List Int) (n : Nat) (K : Int) (s : ByteArray) (size : Int) : List Int := if mcE way xs n K s.size size = 0 then waC way xs n K s size else []
def mCN (way : Nat) (xs : List Int) (n : Nat) (K : Int) (N : Nat) (size : Int) : Int := if mcE way xs n K N size = 0 then waN way xs n K N size else 0
def mCE (way : Nat) (xs : List Int) (n : Nat) (K : Int) (N : Nat) (size : Int) : Int := if mcE way xs n K N size = 0 then waE way xs n K N size else mcE way xs n K N size
theorem matE_zero {way : Nat} {xs : List Int} {n : Nat} {K N size : Int} (h : matE way xs n K N size = 0) : admitsv way xs n K = true ∧ sizedv way xs n K N size = true := by
  unfold matE at h
  cases ha : admitsv way xs n K <;> rw [ha] at h
  · simp at h
  · cases hz : sizedv way xs n K N size <;> rw [hz] at h
    · simp at h
    · exact ⟨rfl, rfl⟩
theorem admits_right {way : Nat} {xs : List Int} {n : Nat} {K : Int} (h : admitsv way xs n K = true) : rightv xs n K = true ∧ 1 ≤ n ∧ n ≤ 64 ∧ 0 ≤ K ∧ K ≤ 64 := by
  unfold admitsv at h
  rw [Bool.and_eq_true] at h
  have hr := h.1
  refine ⟨hr, ?_⟩
  unfold rightv at hr
  simp only [Bool.and_eq_true, decide_eq_true_eq] at hr
  omega
theorem admits_zed {xs : List Int} {n : Nat} {K : Int} (h : admitsv 2 xs n K = true) : lettersOk xs n = true ∧ K = 0 := by
  unfold admitsv at h
  simp only [Bool.and_eq_true] at h
  have h2 := h.2
  simp at h2
  exact h2
theorem way_field0 (a b : Value) (w : World) : (Instr.field 114 (.agg #[a, b]) 0).run Tryz.prog w = .ok a w := by kernel_rfl
set_option maxRecDepth 100000 in
set_option maxHeartbeats 4000000 in
theorem mfind_1 (A : Option Addr) (cap n : Nat) (xs : List Int) (K : Int) (s : ByteArray) (size : Int) (hu : U64 xs) (hl : xs.length = 4 * n) (hn : n ≤ 1000000) (hsz : s.size ≤ 900000) (w : World) (hr : Rd .u64 w A xs) : Calls Tryz.prog 26 #[.int .i64 1, leafV A n cap K, .string s, .int .i64 size] w (AnsJ (mFL 1 xs n K s size) (mFN 1 xs n K s.size size) (mFE 1 xs n K s.size size) w) := by
  by_cases hE : matE 1 xs n K s.size size = 0
  · have e1 : mFL 1 xs n K s size = waL 1 xs n K s size := if_pos hE
    have e2 : mFN 1 xs n K s.size size = waN 1 xs n K s.size size := if_pos hE
    have e3 : mFE 1 xs n K s.size size = waE 1 xs n K s.size size := if_pos hE
    rw [e1, e2, e3]
    have C : ∀ w1, Rd .u64 w1 A xs → Calls Tryz.prog 78 #[leafV A n cap K, .string s, .int .i64 size] w1 (AnsJ (waL 1 xs n K s size) (waN 1 xs n K s.size size) (waE 1 xs n K s.size size) w1) := fun w1 h => by
      exact ways1_c A cap n xs K s size hu hl hn hsz w1 h
    have WY := fun w1 => ways_1 w1
    have hfd := way_field0
    clear e1 e2 e3
    unfold AnsJ at *
    have CK := fun w1 h => mcheck_c 1 (by decide) A cap n xs K s size hu hl hn (by omega) w1 h
    have hb := blk_new w (.cells #[.slice A n cap, .int .i64 K] 61)
    have ka := kept_alloc (kept_refl w) (.cells #[.slice A n cap, .int .i64 K] 61)
    have c0 : (w.alloc (.cells #[.slice A n cap, .int .i64 K] 61)).cell? ⟨w.heap.size, 0, none⟩ = some (.slice A n cap) := blk_cell hb 0
    have c1 : (w.alloc (.cells #[.slice A n cap, .int .i64 K] 61)).cell? ⟨w.heap.size, 1, none⟩ = some (.int .i64 K) := blk_cell hb 1
    rw [hE] at CK
    clear hE
    generalize waL 1 xs n K s size = zl at *
    generalize waN 1 xs n K s.size size = zn at *
    generalize waE 1 xs n K s.size size = ze at *
    go_enter Tryz.func26, Tryz.ntmps26
    go_wp2_with fail
    refine (CK _ (hr.kept ka)).mono ?_
    rintro e w1 ⟨rfl, hk1⟩
    replace hb := blk_kept hk1 hb
    replace ka := kept_trans ka hk1
    replace c0 : w1.cell? ⟨w.heap.size, 0, none⟩ = some (.slice A n cap) := blk_cell hb 0
    replace c1 : w1.cell? ⟨w.heap.size, 1, none⟩ = some (.int .i64 K) := blk_cell hb 1
    have hrr := hr.kept ka
    have kr := kept_refl w1
    clear CK hk1
    go_wp2_with fail
    go_region_held3 (fun w' => w'.cell? ⟨w.heap.size, 0, none⟩ = some (.slice A n cap) ∧ w'.cell? ⟨w.heap.size, 1, none⟩ = some (.int .i64 K)) (first | exact ⟨by assumption, by assumption⟩ | exact ⟨kept_cell hk3 c0, kept_cell hk3 c1⟩ | exact ⟨kept_cell hk2 c0, kept_cell hk2 c1⟩) (first | (go_at_call 47; refine (WY _).mono ?_; rintro e w2 ⟨rfl, hk2⟩; replace hk2 := kept_trans (kept_drew kr) hk2) | (go_at_call 78; refine (C _ (hrr.kept hk2)).mono ?_; rintro e w3 ⟨A3, c3, rfl, rd3, hk3⟩; replace hk3 := kept_trans hk2 hk3))
    have HR := Lib.hid (⟨rd3.less (Nat.le_trans ka.size hk2.size), kept_trans ka hk3⟩ : _ ∧ _)
    clear rd3 hk3 hk2 C WY
    generalize hzz : zl.length = zz at *
    have HZ := Lib.hid hzz
    clear hzz
    go_wp2_with fail
    exact bodyPost_ret (v := .tuple #[.slice A3 zz c3, .int .i64 zn, .int .i64 ze]) (by simp [results, Tryz.results26, go_sem]) rfl ⟨A3, c3, by rw [HZ.out], HR.out.1, HR.out.2⟩
  · have e1 : mFL 1 xs n K s size = [] := if_neg hE
    have e2 : mFN 1 xs n K s.size size = 0 := if_neg hE
    have e3 : mFE 1 xs n K s.size size = matE 1 xs n K s.size size := if_neg hE
    rw [e1, e2, e3]
    clear e1 e2 e3
    unfold AnsJ
    have CK := fun w1 h => mcheck_c 1 (by decide) A cap n xs K s size hu hl hn (by omega) w1 h
    have hb := blk_new w (.cells #[.slice A n cap, .int .i64 K] 61)
    have ka := kept_alloc (kept_refl w) (.cells #[.slice A n cap, .int .i64 K] 61)
    have c0 : (w.alloc (.cells #[.slice A n cap, .int .i64 K] 61)).cell? ⟨w.heap.size, 0, none⟩ = some (.slice A n cap) := blk_cell hb 0
    have c1 : (w.alloc (.cells #[.slice A n cap, .int .i64 K] 61)).cell? ⟨w.heap.size, 1, none⟩ = some (.int .i64 K) := blk_cell hb 1
    generalize matE 1 xs n K s.size size = er at *
    have hne : (er != 0) = true := by simpa using hE
    go_enter Tryz.func26, Tryz.ntmps26
    go_wp2_with fail
    refine (CK _ (hr.kept ka)).mono ?_
    rintro e w1 ⟨rfl, hk1⟩
    replace ka := kept_trans ka hk1
    clear CK c0 c1 hb hk1
    go_wp2_with fail
    exact bodyPost_ret (v := .tuple #[.slice none 0 0, .int .i64 0, .int .i64 er]) (by simp [results, Tryz.results26, go_sem]) rfl ⟨none, 0, rfl, RdF.nil _ _ _, ka⟩
set_option maxRecDepth 100000 in
set_option maxHeartbeats 4000000 in
theorem mfind_2 (A : Option Addr) (cap n : Nat) (xs : List Int) (K : Int) (s : ByteArray) (size : Int) (hu : U64 xs) (hl : xs.length = 4 * n) (hn : n ≤ 1000000) (hsz : s.size ≤ 900000) (w : World) (hr : Rd .u64 w A xs) : Calls Tryz.prog 26 #[.int .i64 2, leafV A n cap K, .string s, .int .i64 size] w (AnsJ (mFL 2 xs n K s size) (mFN 2 xs n K s.size size) (mFE 2 xs n K s.size size) w) := by
  by_cases hE : matE 2 xs n K s.size size = 0
  · have e1 : mFL 2 xs n K s size = waL 2 xs n K s size := if_pos hE
    have e2 : mFN 2 xs n K s.size size = waN 2 xs n K s.size size := if_pos hE
    have e3 : mFE 2 xs n K s.size size = waE 2 xs n K s.size size := if_pos hE
    rw [e1, e2, e3]
    have C : ∀ w1, Rd .u64 w1 A xs → Calls Tryz.prog 82 #[leafV A n cap K, .string s, .int .i64 size] w1 (AnsJ (waL 2 xs n K s size) (waN 2 xs n K s.size size) (waE 2 xs n K s.size size) w1) := fun w1 h => by
      obtain ⟨ha, _⟩ := matE_zero hE
      obtain ⟨hrv, hn1, hn64, _, _⟩ := admits_right ha
      obtain ⟨hlo, rfl⟩ := admits_zed ha
      exact ways3_c A cap n xs s size hu hl (by omega) hsz hn1 hrv hlo w1 h
    have WY := fun w1 => ways_2 w1
    have hfd := way_field0
    clear e1 e2 e3
    unfold AnsJ at *
    have CK := fun w1 h => mcheck_c 2 (by decide) A cap n xs K s size hu hl hn (by omega) w1 h
    have hb := blk_new w (.cells #[.slice A n cap, .int .i64 K] 61)
    have ka := kept_alloc (kept_refl w) (.cells #[.slice A n cap, .int .i64 K] 61)
    have c0 : (w.alloc (.cells #[.slice A n cap, .int .i64 K] 61)).cell? ⟨w.heap.size, 0, none⟩ = some (.slice A n cap) := blk_cell hb 0
    have c1 : (w.alloc (.cells #[.slice A n cap, .int .i64 K] 61)).cell? ⟨w.heap.size, 1, none⟩ = some (.int .i64 K) := blk_cell hb 1
    rw [hE] at CK
    clear hE
    generalize waL 2 xs n K s size = zl at *
    generalize waN 2 xs n K s.size size = zn at *
    generalize waE 2 xs n K s.size size = ze at *
    go_enter Tryz.func26, Tryz.ntmps26
    go_wp2_with fail
    refine (CK _ (hr.kept ka)).mono ?_
    rintro e w1 ⟨rfl, hk1⟩
    replace hb := blk_kept hk1 hb
    replace ka := kept_trans ka hk1
    replace c0 : w1.cell? ⟨w.heap.size, 0, none⟩ = some (.slice A n cap) := blk_cell hb 0
    replace c1 : w1.cell? ⟨w.heap.size, 1, none⟩ = some (.int .i64 K) := blk_cell hb 1
    have hrr := hr.kept ka
    have kr := kept_refl w1
    clear CK hk1
    go_wp2_with fail
    go_region_held3 (fun w' => w'.cell? ⟨w.heap.size, 0, none⟩ = some (.slice A n cap) ∧ w'.cell? ⟨w.heap.size, 1, none⟩ = some (.int .i64 K)) (first | exact ⟨by assumption, by assumption⟩ | exact ⟨kept_cell hk3 c0, kept_cell hk3 c1⟩ | exact ⟨kept_cell hk2 c0, kept_cell hk2 c1⟩) (first | (go_at_call 47; refine (WY _).mono ?_; rintro e w2 ⟨rfl, hk2⟩; replace hk2 := kept_trans (kept_drew kr) hk2) | (go_at_call 82; refine (C _ (hrr.kept hk2)).mono ?_; rintro e w3 ⟨A3, c3, rfl, rd3, hk3⟩; replace hk3 := kept_trans hk2 hk3))
    have HR := Lib.hid (⟨rd3.less (Nat.le_trans ka.size hk2.size), kept_trans ka hk3⟩ : _ ∧ _)
    clear rd3 hk3 hk2 C WY
    generalize hzz : zl.length = zz at *
    have HZ := Lib.hid hzz
    clear hzz
    go_wp2_with fail
    exact bodyPost_ret (v := .tuple #[.slice A3 zz c3, .int .i64 zn, .int .i64 ze]) (by simp [results, Tryz.results26, go_sem]) rfl ⟨A3, c3, by rw [HZ.out], HR.out.1, HR.out.2⟩
  · have e1 : mFL 2 xs n K s size = [] := if_neg hE
    have e2 : mFN 2 xs n K s.size size = 0 := if_neg hE
    have e3 : mFE 2 xs n K s.size size = matE 2 xs n K s.size size := if_neg hE
    rw [e1, e2, e3]
    clear e1 e2 e3
    unfold AnsJ
    have CK := fun w1 h => mcheck_c 2 (by decide) A cap n xs K s size hu hl hn (by omega) w1 h
    have hb := blk_new w (.cells #[.slice A n cap, .int .i64 K] 61)
    have ka := kept_alloc (kept_refl w) (.cells #[.slice A n cap, .int .i64 K] 61)
    have c0 : (w.alloc (.cells #[.slice A n cap, .int .i64 K] 61)).cell? ⟨w.heap.size, 0, none⟩ = some (.slice A n cap) := blk_cell hb 0
    have c1 : (w.alloc (.cells #[.slice A n cap, .int .i64 K] 61)).cell? ⟨w.heap.size, 1, none⟩ = some (.int .i64 K) := blk_cell hb 1
    generalize matE 2 xs n K s.size size = er at *
    have hne : (er != 0) = true := by simpa using hE
    go_enter Tryz.func26, Tryz.ntmps26
    go_wp2_with fail
    refine (CK _ (hr.kept ka)).mono ?_
    rintro e w1 ⟨rfl, hk1⟩
    replace ka := kept_trans ka hk1
    clear CK c0 c1 hb hk1
    go_wp2_with fail
    exact bodyPost_ret (v := .tuple #[.slice none 0 0, .int .i64 0, .int .i64 er]) (by simp [results, Tryz.results26, go_sem]) rfl ⟨none, 0, rfl, RdF.nil _ _ _, ka⟩
set_option maxRecDepth 100000 in
set_option maxHeartbeats 4000000 in
theorem mfind_3 (A : Option Addr) (cap n : Nat) (xs : List Int) (K : Int) (s : ByteArray) (size : Int) (hu : U64 xs) (hl : xs.length = 4 * n) (hn : n ≤ 1000000) (hsz : s.size ≤ 900000) (w : World) (hr : Rd .u64 w A xs) : Calls Tryz.prog 26 #[.int .i64 3, leafV A n cap K, .string s, .int .i64 size] w (AnsJ (mFL 3 xs n K s size) (mFN 3 xs n K s.size size) (mFE 3 xs n K s.size size) w) := by
  by_cases hE : matE 3 xs n K s.size size = 0
  · have e1 : mFL 3 xs n K s size = waL 3 xs n K s size := if_pos hE
    have e2 : mFN 3 xs n K s.size size = waN 3 xs n K s.size size := if_pos hE
    have e3 : mFE 3 xs n K s.size size = waE 3 xs n K s.size size := if_pos hE
    rw [e1, e2, e3]
    have C : ∀ w1, Rd .u64 w1 A xs → Calls Tryz.prog 84 #[leafV A n cap K, .string s, .int .i64 size] w1 (AnsJ (waL 3 xs n K s size) (waN 3 xs n K s.size size) (waE 3 xs n K s.size size) w1) := fun w1 h => by
      exact wfind_c A cap n xs K s size hu hl hn hsz w1 h
    have WY := fun w1 => ways_3 w1
    have hfd := way_field0
    clear e1 e2 e3
    unfold AnsJ at *
    have CK := fun w1 h => mcheck_c 3 (by decide) A cap n xs K s size hu hl hn (by omega) w1 h
    have hb := blk_new w (.cells #[.slice A n cap, .int .i64 K] 61)
    have ka := kept_alloc (kept_refl w) (.cells #[.slice A n cap, .int .i64 K] 61)
    have c0 : (w.alloc (.cells #[.slice A n cap, .int .i64 K] 61)).cell? ⟨w.heap.size, 0, none⟩ = some (.slice A n cap) := blk_cell hb 0
    have c1 : (w.alloc (.cells #[.slice A n cap, .int .i64 K] 61)).cell? ⟨w.heap.size, 1, none⟩ = some (.int .i64 K) := blk_cell hb 1
    rw [hE] at CK
    clear hE
    generalize waL 3 xs n K s size = zl at *
    generalize waN 3 xs n K s.size size = zn at *
    generalize waE 3 xs n K s.size size = ze at *
    go_enter Tryz.func26, Tryz.ntmps26
    go_wp2_with fail
    refine (CK _ (hr.kept ka)).mono ?_
    rintro e w1 ⟨rfl, hk1⟩
    replace hb := blk_kept hk1 hb
    replace ka := kept_trans ka hk1
    replace c0 : w1.cell? ⟨w.heap.size, 0, none⟩ = some (.slice A n cap) := blk_cell hb 0
    replace c1 : w1.cell? ⟨w.heap.size, 1, none⟩ = some (.int .i64 K) := blk_cell hb 1
    have hrr := hr.kept ka
    have kr := kept_refl w1
    clear CK hk1
    go_wp2_with fail
    go_region_held3 (fun w' => w'.cell? ⟨w.heap.size, 0, none⟩ = some (.slice A n cap) ∧ w'.cell? ⟨w.heap.size, 1, none⟩ = some (.int .i64 K)) (first | exact ⟨by assumption, by assumption⟩ | exact ⟨kept_cell hk3 c0, kept_cell hk3 c1⟩ | exact ⟨kept_cell hk2 c0, kept_cell hk2 c1⟩) (first | (go_at_call 47; refine (WY _).mono ?_; rintro e w2 ⟨rfl, hk2⟩; replace hk2 := kept_trans (kept_drew kr) hk2) | (go_at_call 84; refine (C _ (hrr.kept hk2)).mono ?_; rintro e w3 ⟨A3, c3, rfl, rd3, hk3⟩; replace hk3 := kept_trans hk2 hk3))
    have HR := Lib.hid (⟨rd3.less (Nat.le_trans ka.size hk2.size), kept_trans ka hk3⟩ : _ ∧ _)
    clear rd3 hk3 hk2 C WY
    generalize hzz : zl.length = zz at *
    have HZ := Lib.hid hzz
    clear hzz
    go_wp2_with fail
    exact bodyPost_ret (v := .tuple #[.slice A3 zz c3, .int .i64 zn, .int .i64 ze]) (by simp [results, Tryz.results26, go_sem]) rfl ⟨A3, c3, by rw [HZ.out], HR.out.1, HR.out.2⟩
  · have e1 : mFL 3 xs n K s size = [] := if_neg hE
    have e2 : mFN 3 xs n K s.size size = 0 := if_neg hE
    have e3 : mFE 3 xs n K s.size size = matE 3 xs n K s.size size := if_neg hE
    rw [e1, e2, e3]
    clear e1 e2 e3
    unfold AnsJ
    have CK := fun w1 h => mcheck_c 3 (by decide) A cap n xs K s size hu hl hn (by omega) w1 h
    have hb := blk_new w (.cells #[.slice A n cap, .int .i64 K] 61)
    have ka := kept_alloc (kept_refl w) (.cells #[.slice A n cap, .int .i64 K] 61)
    have c0 : (w.alloc (.cells #[.slice A n cap, .int .i64 K] 61)).cell? ⟨w.heap.size, 0, none⟩ = some (.slice A n cap) := blk_cell hb 0
    have c1 : (w.alloc (.cells #[.slice A n cap, .int .i64 K] 61)).cell? ⟨w.heap.size, 1, none⟩ = some (.int .i64 K) := blk_cell hb 1
    generalize matE 3 xs n K s.size size = er at *
    have hne : (er != 0) = true := by simpa using hE
    go_enter Tryz.func26, Tryz.ntmps26
    go_wp2_with fail
    refine (CK _ (hr.kept ka)).mono ?_
    rintro e w1 ⟨rfl, hk1⟩
    replace ka := kept_trans ka hk1
    clear CK c0 c1 hb hk1
    go_wp2_with fail
    exact bodyPost_ret (v := .tuple #[.slice none 0 0, .int .i64 0, .int .i64 er]) (by simp [results, Tryz.results26, go_sem]) rfl ⟨none, 0, rfl, RdF.nil _ _ _, ka⟩
set_option maxRecDepth 100000 in
set_option maxHeartbeats 4000000 in
theorem mfind_4 (A : Option Addr) (cap n : Nat) (xs : List Int) (K : Int) (s : ByteArray) (size : Int) (hu : U64 xs) (hl : xs.length = 4 * n) (hn : n ≤ 1000000) (hsz : s.size ≤ 900000) (w : World) (hr : Rd .u64 w A xs) : Calls Tryz.prog 26 #[.int .i64 4, leafV A n cap K, .string s, .int .i64 size] w (AnsJ (mFL 4 xs n K s size) (mFN 4 xs n K s.size size) (mFE 4 xs n K s.size size) w) := by
  by_cases hE : matE 4 xs n K s.size size = 0
  · have e1 : mFL 4 xs n K s size = waL 4 xs n K s size := if_pos hE
    have e2 : mFN 4 xs n K s.size size = waN 4 xs n K s.size size := if_pos hE
    have e3 : mFE 4 xs n K s.size size = waE 4 xs n K s.size size := if_pos hE
    rw [e1, e2, e3]
    have C : ∀ w1, Rd .u64 w1 A xs → Calls Tryz.prog 85 #[leafV A n cap K, .string s, .int .i64 size] w1 (AnsJ (waL 4 xs n K s size) (waN 4 xs n K s.size size) (waE 4 xs n K s.size size) w1) := fun w1 h => by
      exact symfind_c A cap n xs K s size hu hl hn hsz w1 h
    have WY := fun w1 => ways_4 w1
    have hfd := way_field0
    clear e1 e2 e3
    unfold AnsJ at *
    have CK := fun w1 h => mcheck_c 4 (by decide) A cap n xs K s size hu hl hn (by omega) w1 h
    have hb := blk_new w (.cells #[.slice A n cap, .int .i64 K] 61)
    have ka := kept_alloc (kept_refl w) (.cells #[.slice A n cap, .int .i64 K] 61)
    have c0 : (w.alloc (.cells #[.slice A n cap, .int .i64 K] 61)).cell? ⟨w.heap.size, 0, none⟩ = some (.slice A n cap) := blk_cell hb 0
    have c1 : (w.alloc (.cells #[.slice A n cap, .int .i64 K] 61)).cell? ⟨w.heap.size, 1, none⟩ = some (.int .i64 K) := blk_cell hb 1
    rw [hE] at CK
    clear hE
    generalize waL 4 xs n K s size = zl at *
    generalize waN 4 xs n K s.size size = zn at *
    generalize waE 4 xs n K s.size size = ze at *
    go_enter Tryz.func26, Tryz.ntmps26
    go_wp2_with fail
    refine (CK _ (hr.kept ka)).mono ?_
    rintro e w1 ⟨rfl, hk1⟩
    replace hb := blk_kept hk1 hb
    replace ka := kept_trans ka hk1
    replace c0 : w1.cell? ⟨w.heap.size, 0, none⟩ = some (.slice A n cap) := blk_cell hb 0
    replace c1 : w1.cell? ⟨w.heap.size, 1, none⟩ = some (.int .i64 K) := blk_cell hb 1
    have hrr := hr.kept ka
    have kr := kept_refl w1
    clear CK hk1
    go_wp2_with fail
    go_region_held3 (fun w' => w'.cell? ⟨w.heap.size, 0, none⟩ = some (.slice A n cap) ∧ w'.cell? ⟨w.heap.size, 1, none⟩ = some (.int .i64 K)) (first | exact ⟨by assumption, by assumption⟩ | exact ⟨kept_cell hk3 c0, kept_cell hk3 c1⟩ | exact ⟨kept_cell hk2 c0, kept_cell hk2 c1⟩) (first | (go_at_call 47; refine (WY _).mono ?_; rintro e w2 ⟨rfl, hk2⟩; replace hk2 := kept_trans (kept_drew kr) hk2) | (go_at_call 85; refine (C _ (hrr.kept hk2)).mono ?_; rintro e w3 ⟨A3, c3, rfl, rd3, hk3⟩; replace hk3 := kept_trans hk2 hk3))
    have HR := Lib.hid (⟨rd3.less (Nat.le_trans ka.size hk2.size), kept_trans ka hk3⟩ : _ ∧ _)
    clear rd3 hk3 hk2 C WY
    generalize hzz : zl.length = zz at *
    have HZ := Lib.hid hzz
    clear hzz
    go_wp2_with fail
    exact bodyPost_ret (v := .tuple #[.slice A3 zz c3, .int .i64 zn, .int .i64 ze]) (by simp [results, Tryz.results26, go_sem]) rfl ⟨A3, c3, by rw [HZ.out], HR.out.1, HR.out.2⟩
  · have e1 : mFL 4 xs n K s size = [] := if_neg hE
    have e2 : mFN 4 xs n K s.size size = 0 := if_neg hE
    have e3 : mFE 4 xs n K s.size size = matE 4 xs n K s.size size := if_neg hE
    rw [e1, e2, e3]
    clear e1 e2 e3
    unfold AnsJ
    have CK := fun w1 h => mcheck_c 4 (by decide) A cap n xs K s size hu hl hn (by omega) w1 h
    have hb := blk_new w (.cells #[.slice A n cap, .int .i64 K] 61)
    have ka := kept_alloc (kept_refl w) (.cells #[.slice A n cap, .int .i64 K] 61)
    have c0 : (w.alloc (.cells #[.slice A n cap, .int .i64 K] 61)).cell? ⟨w.heap.size, 0, none⟩ = some (.slice A n cap) := blk_cell hb 0
    have c1 : (w.alloc (.cells #[.slice A n cap, .int .i64 K] 61)).cell? ⟨w.heap.size, 1, none⟩ = some (.int .i64 K) := blk_cell hb 1
    generalize matE 4 xs n K s.size size = er at *
    have hne : (er != 0) = true := by simpa using hE
    go_enter Tryz.func26, Tryz.ntmps26
    go_wp2_with fail
    refine (CK _ (hr.kept ka)).mono ?_
    rintro e w1 ⟨rfl, hk1⟩
    replace ka := kept_trans ka hk1
    clear CK c0 c1 hb hk1
    go_wp2_with fail
    exact bodyPost_ret (v := .tuple #[.slice none 0 0, .int .i64 0, .int .i64 er]) (by simp [results, Tryz.results26, go_sem]) rfl ⟨none, 0, rfl, RdF.nil _ _ _, ka⟩
set_option maxRecDepth 100000 in
set_option maxHeartbeats 4000000 in
theorem mfind_5 (A : Option Addr) (cap n : Nat) (xs : List Int) (K : Int) (s : ByteArray) (size : Int) (hu : U64 xs) (hl : xs.length = 4 * n) (hn : n ≤ 1000000) (hsz : s.size ≤ 900000) (w : World) (hr : Rd .u64 w A xs) : Calls Tryz.prog 26 #[.int .i64 5, leafV A n cap K, .string s, .int .i64 size] w (AnsJ (mFL 5 xs n K s size) (mFN 5 xs n K s.size size) (mFE 5 xs n K s.size size) w) := by
  by_cases hE : matE 5 xs n K s.size size = 0
  · have e1 : mFL 5 xs n K s size = waL 5 xs n K s size := if_pos hE
    have e2 : mFN 5 xs n K s.size size = waN 5 xs n K s.size size := if_pos hE
    have e3 : mFE 5 xs n K s.size size = waE 5 xs n K s.size size := if_pos hE
    rw [e1, e2, e3]
    have C : ∀ w1, Rd .u64 w1 A xs → Calls Tryz.prog 87 #[leafV A n cap K, .string s, .int .i64 size] w1 (AnsJ (waL 5 xs n K s size) (waN 5 xs n K s.size size) (waE 5 xs n K s.size size) w1) := fun w1 h => by
      exact ways4_c A cap n xs K s size hu hl hn hsz w1 h
    have WY := fun w1 => ways_5 w1
    have hfd := way_field0
    clear e1 e2 e3
    unfold AnsJ at *
    have CK := fun w1 h => mcheck_c 5 (by decide) A cap n xs K s size hu hl hn (by omega) w1 h
    have hb := blk_new w (.cells #[.slice A n cap, .int .i64 K] 61)
    have ka := kept_alloc (kept_refl w) (.cells #[.slice A n cap, .int .i64 K] 61)
    have c0 : (w.alloc (.cells #[.slice A n cap, .int .i64 K] 61)).cell? ⟨w.heap.size, 0, none⟩ = some (.slice A n cap) := blk_cell hb 0
    have c1 : (w.alloc (.cells #[.slice A n cap, .int .i64 K] 61)).cell? ⟨w.heap.size, 1, none⟩ = some (.int .i64 K) := blk_cell hb 1
    rw [hE] at CK
    clear hE
    generalize waL 5 xs n K s size = zl at *
    generalize waN 5 xs n K s.size size = zn at *
    generalize waE 5 xs n K s.size size = ze at *
    go_enter Tryz.func26, Tryz.ntmps26
    go_wp2_with fail
    refine (CK _ (hr.kept ka)).mono ?_
    rintro e w1 ⟨rfl, hk1⟩
    replace hb := blk_kept hk1 hb
    replace ka := kept_trans ka hk1
    replace c0 : w1.cell? ⟨w.heap.size, 0, none⟩ = some (.slice A n cap) := blk_cell hb 0
    replace c1 : w1.cell? ⟨w.heap.size, 1, none⟩ = some (.int .i64 K) := blk_cell hb 1
    have hrr := hr.kept ka
    have kr := kept_refl w1
    clear CK hk1
    go_wp2_with fail
    go_region_held3 (fun w' => w'.cell? ⟨w.heap.size, 0, none⟩ = some (.slice A n cap) ∧ w'.cell? ⟨w.heap.size, 1, none⟩ = some (.int .i64 K)) (first | exact ⟨by assumption, by assumption⟩ | exact ⟨kept_cell hk3 c0, kept_cell hk3 c1⟩ | exact ⟨kept_cell hk2 c0, kept_cell hk2 c1⟩) (first | (go_at_call 47; refine (WY _).mono ?_; rintro e w2 ⟨rfl, hk2⟩; replace hk2 := kept_trans (kept_drew kr) hk2) | (go_at_call 87; refine (C _ (hrr.kept hk2)).mono ?_; rintro e w3 ⟨A3, c3, rfl, rd3, hk3⟩; replace hk3 := kept_trans hk2 hk3))
    have HR := Lib.hid (⟨rd3.less (Nat.le_trans ka.size hk2.size), kept_trans ka hk3⟩ : _ ∧ _)
    clear rd3 hk3 hk2 C WY
    generalize hzz : zl.length = zz at *
    have HZ := Lib.hid hzz
    clear hzz
    go_wp2_with fail
    exact bodyPost_ret (v := .tuple #[.slice A3 zz c3, .int .i64 zn, .int .i64 ze]) (by simp [results, Tryz.results26, go_sem]) rfl ⟨A3, c3, by rw [HZ.out], HR.out.1, HR.out.2⟩
  · have e1 : mFL 5 xs n K s size = [] := if_neg hE
    have e2 : mFN 5 xs n K s.size size = 0 := if_neg hE
    have e3 : mFE 5 xs n K s.size size = matE 5 xs n K s.size size := if_neg hE
    rw [e1, e2, e3]
    clear e1 e2 e3
    unfold AnsJ
    have CK := fun w1 h => mcheck_c 5 (by decide) A cap n xs K s size hu hl hn (by omega) w1 h
    have hb := blk_new w (.cells #[.slice A n cap, .int .i64 K] 61)
    have ka := kept_alloc (kept_refl w) (.cells #[.slice A n cap, .int .i64 K] 61)
    have c0 : (w.alloc (.cells #[.slice A n cap, .int .i64 K] 61)).cell? ⟨w.heap.size, 0, none⟩ = some (.slice A n cap) := blk_cell hb 0
    have c1 : (w.alloc (.cells #[.slice A n cap, .int .i64 K] 61)).cell? ⟨w.heap.size, 1, none⟩ = some (.int .i64 K) := blk_cell hb 1
    generalize matE 5 xs n K s.size size = er at *
    have hne : (er != 0) = true := by simpa using hE
    go_enter Tryz.func26, Tryz.ntmps26
    go_wp2_with fail
    refine (CK _ (hr.kept ka)).mono ?_
    rintro e w1 ⟨rfl, hk1⟩
    replace ka := kept_trans ka hk1
    clear CK c0 c1 hb hk1
    go_wp2_with fail
    exact bodyPost_ret (v := .tuple #[.slice none 0 0, .int .i64 0, .int .i64 er]) (by simp [results, Tryz.results26, go_sem]) rfl ⟨none, 0, rfl, RdF.nil _ _ _, ka⟩
end Go.Proofs.YtdejablhpljdfaaGreat
