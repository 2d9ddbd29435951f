/-
  Texts of one claim, joined: TMatch3, TFeed1, TFeed2, TCost1.
-/
import Derived.Test.YtdejablhpljdfaaGreatC24
namespace Go.Proofs.YtdejablhpljdfaaGreat
open Go.RowKit BG
attribute [local go_sem ↓] Go.wp_at_zero Go.wp_at_succ run_max_at run_min_at
set_option linter.unusedVariables false
theorem fn_nil (f : FuncId) (w : World) : (binOp .eql 112 (.func (.func f) #[] #[]) .nilFunc).run Tryz.prog w = .ok (.bool false) w := by kernel_rfl
theorem nil_nil (w : World) : (binOp .eql 112 .nilFunc .nilFunc).run Tryz.prog w = .ok (.bool true) w := by kernel_rfl
set_option maxRecDepth 100000 in
set_option maxHeartbeats 4000000 in
theorem mcounts_1 (A : Option Addr) (cap n : Nat) (xs : List Int) (K : Int) (s : ByteArray) (size : Int) (hu : U64 xs) (hl : xs.length = 4 * n) (hn : n ≤ 1000000) (hsz : s.size ≤ 900000) (w : World) (hr : Rd .u64 w A xs) : Calls Tryz.prog 23 #[.int .i64 1, leafV A n cap K, .string s, .int .i64 size] w (AnsI (mCL 1 xs n K s size) (mCN 1 xs n K s.size size) (mCE 1 xs n K s.size size) w) := by
  have CK := fun w1 h => mcheck_c 1 (by decide) A cap n xs K s size hu hl hn (by omega) w1 h
  have WY := fun w1 => ways_1 w1
  have hb := blk_new w (.cells #[.slice A n cap, .int .i64 K] 61)
  have ka := kept_alloc (kept_refl w) (.cells #[.slice A n cap, .int .i64 K] 61)
  have hfn := fn_nil
  have hnn := nil_nil
  by_cases hE : matE 1 xs n K s.size size = 0
  · have e1 : mCL 1 xs n K s size = waC 1 xs n K s size := if_pos hE
    have e2 : mCN 1 xs n K s.size size = waN 1 xs n K s.size size := if_pos hE
    have e3 : mCE 1 xs n K s.size size = waE 1 xs n K s.size size := if_pos hE
    rw [e1, e2, e3]
    have C : ∀ w1, Rd .u64 w1 A xs → Calls Tryz.prog 80 #[leafV A n cap K, .string s, .int .i64 size] w1 (AnsI (waC 1 xs n K s size) (waN 1 xs n K s.size size) (waE 1 xs n K s.size size) w1) := fun w1 h => ways2_c A cap n xs K s size hu hl hn hsz w1 h
    clear e1 e2 e3
    unfold AnsI at *
    rw [hE] at CK
    clear hE
    generalize waC 1 xs n K s size = zl at *
    generalize waN 1 xs n K s.size size = zn at *
    generalize waE 1 xs n K s.size size = ze at *
    go_enter Tryz.func23, Tryz.ntmps23
    go_wp2_with fail
    refine (WY _).mono ?_
    rintro e w1 ⟨rfl, hk1⟩
    replace hb := blk_kept hk1 hb
    replace ka := kept_trans ka hk1
    have hF := blk_new w1 (.cells #[.func (.func 78) #[] #[], .func (.func 80) #[] #[]] 114)
    have kf := kept_alloc (kept_refl w1) (.cells #[.func (.func 78) #[] #[], .func (.func 80) #[] #[]] 114)
    replace hb := blk_kept kf hb
    replace ka := kept_trans ka kf
    have f0 : (w1.alloc (.cells #[.func (.func 78) #[] #[], .func (.func 80) #[] #[]] 114)).cell? ⟨w1.heap.size, 0, none⟩ = some (.func (.func 78) #[] #[]) := blk_cell hF 0
    have f1 : (w1.alloc (.cells #[.func (.func 78) #[] #[], .func (.func 80) #[] #[]] 114)).cell? ⟨w1.heap.size, 1, none⟩ = some (.func (.func 80) #[] #[]) := blk_cell hF 1
    have c0 : (w1.alloc (.cells #[.func (.func 78) #[] #[], .func (.func 80) #[] #[]] 114)).cell? ⟨w.heap.size, 0, none⟩ = some (.slice A n cap) := blk_cell hb 0
    have c1 : (w1.alloc (.cells #[.func (.func 78) #[] #[], .func (.func 80) #[] #[]] 114)).cell? ⟨w.heap.size, 1, none⟩ = some (.int .i64 K) := blk_cell hb 1
    clear WY hk1
    go_wp2_with fail
    refine (CK _ (hr.kept ka)).mono ?_
    rintro e w2 ⟨rfl, hk2⟩
    replace hb := blk_kept hk2 hb
    replace hF := blk_kept hk2 hF
    replace ka := kept_trans ka hk2
    generalize w1.heap.size = bf at *
    replace f0 : w2.cell? ⟨bf, 0, none⟩ = some (.func (.func 78) #[] #[]) := blk_cell hF 0
    replace f1 : w2.cell? ⟨bf, 1, none⟩ = some (.func (.func 80) #[] #[]) := blk_cell hF 1
    replace c0 : w2.cell? ⟨w.heap.size, 0, none⟩ = some (.slice A n cap) := blk_cell hb 0
    replace c1 : w2.cell? ⟨w.heap.size, 1, none⟩ = some (.int .i64 K) := blk_cell hb 1
    clear CK hk2 kf
    go_wp2_with fail
    refine (C _ (hr.kept ka)).mono ?_
    rintro e w3 ⟨A3, c3, rfl, rd3, hk3⟩
    have HR := Lib.hid (⟨rd3, kept_trans ka hk3⟩ : _ ∧ _)
    clear rd3 hk3 C f0 f1 c0 c1 hb hF
    generalize hzz : zl.length = zz at *
    have HZ := Lib.hid hzz
    clear hzz
    go_wp2_with fail
    exact bodyPost_ret (v := .tuple #[.slice A3 zz c3, .int .i64 zn, .int .i64 ze]) (by simp [results, Tryz.results23, go_sem]) rfl ⟨A3, c3, by rw [HZ.out], HR.out.1, HR.out.2⟩
  · have e1 : mCL 1 xs n K s size = [] := if_neg hE
    have e2 : mCN 1 xs n K s.size size = 0 := if_neg hE
    have e3 : mCE 1 xs n K s.size size = matE 1 xs n K s.size size := if_neg hE
    rw [e1, e2, e3]
    clear e1 e2 e3
    unfold AnsI
    generalize matE 1 xs n K s.size size = er at *
    have hne : (er != 0) = true := by simpa using hE
    go_enter Tryz.func23, Tryz.ntmps23
    go_wp2_with fail
    refine (WY _).mono ?_
    rintro e w1 ⟨rfl, hk1⟩
    replace hb := blk_kept hk1 hb
    replace ka := kept_trans ka hk1
    have hF := blk_new w1 (.cells #[.func (.func 78) #[] #[], .func (.func 80) #[] #[]] 114)
    have kf := kept_alloc (kept_refl w1) (.cells #[.func (.func 78) #[] #[], .func (.func 80) #[] #[]] 114)
    replace hb := blk_kept kf hb
    replace ka := kept_trans ka kf
    have f0 : (w1.alloc (.cells #[.func (.func 78) #[] #[], .func (.func 80) #[] #[]] 114)).cell? ⟨w1.heap.size, 0, none⟩ = some (.func (.func 78) #[] #[]) := blk_cell hF 0
    have f1 : (w1.alloc (.cells #[.func (.func 78) #[] #[], .func (.func 80) #[] #[]] 114)).cell? ⟨w1.heap.size, 1, none⟩ = some (.func (.func 80) #[] #[]) := blk_cell hF 1
    have c0 : (w1.alloc (.cells #[.func (.func 78) #[] #[], .func (.func 80) #[] #[]] 114)).cell? ⟨w.heap.size, 0, none⟩ = some (.slice A n cap) := blk_cell hb 0
    have c1 : (w1.alloc (.cells #[.func (.func 78) #[] #[], .func (.func 80) #[] #[]] 114)).cell? ⟨w.heap.size, 1, none⟩ = some (.int .i64 K) := blk_cell hb 1
    clear WY hk1
    go_wp2_with fail
    refine (CK _ (hr.kept ka)).mono ?_
    rintro e w2 ⟨rfl, hk2⟩
    replace hb := blk_kept hk2 hb
    replace hF := blk_kept hk2 hF
    replace ka := kept_trans ka hk2
    generalize w1.heap.size = bf at *
    replace f0 : w2.cell? ⟨bf, 0, none⟩ = some (.func (.func 78) #[] #[]) := blk_cell hF 0
    replace f1 : w2.cell? ⟨bf, 1, none⟩ = some (.func (.func 80) #[] #[]) := blk_cell hF 1
    replace c0 : w2.cell? ⟨w.heap.size, 0, none⟩ = some (.slice A n cap) := blk_cell hb 0
    replace c1 : w2.cell? ⟨w.heap.size, 1, none⟩ = some (.int .i64 K) := blk_cell hb 1
    clear CK hk2 kf
    go_wp2_with fail
    exact bodyPost_ret (v := .tuple #[.slice none 0 0, .int .i64 0, .int .i64 er]) (by simp [results, Tryz.results23, go_sem]) rfl ⟨none, 0, rfl, Rd.nil _ _ _, ka⟩
set_option maxRecDepth 100000 in
set_option maxHeartbeats 4000000 in
theorem mcounts_2 (A : Option Addr) (cap n : Nat) (xs : List Int) (K : Int) (s : ByteArray) (size : Int) (hu : U64 xs) (hl : xs.length = 4 * n) (hn : n ≤ 1000000) (hsz : s.size ≤ 900000) (w : World) (hr : Rd .u64 w A xs) : Calls Tryz.prog 23 #[.int .i64 2, leafV A n cap K, .string s, .int .i64 size] w (AnsI (mCL 2 xs n K s size) (mCN 2 xs n K s.size size) (mCE 2 xs n K s.size size) w) := by
  have WY := fun w1 => ways_2 w1
  have hb := blk_new w (.cells #[.slice A n cap, .int .i64 K] 61)
  have ka := kept_alloc (kept_refl w) (.cells #[.slice A n cap, .int .i64 K] 61)
  have hfn := fn_nil
  have hnn := nil_nil
  show Calls _ _ _ _ (AnsI [] 0 170 w)
  unfold AnsI
  · skip
    go_enter Tryz.func23, Tryz.ntmps23
    go_wp2_with fail
    refine (WY _).mono ?_
    rintro e w1 ⟨rfl, hk1⟩
    replace hb := blk_kept hk1 hb
    replace ka := kept_trans ka hk1
    have hF := blk_new w1 (.cells #[.func (.func 82) #[] #[], .nilFunc] 114)
    have kf := kept_alloc (kept_refl w1) (.cells #[.func (.func 82) #[] #[], .nilFunc] 114)
    replace hb := blk_kept kf hb
    replace ka := kept_trans ka kf
    have f0 : (w1.alloc (.cells #[.func (.func 82) #[] #[], .nilFunc] 114)).cell? ⟨w1.heap.size, 0, none⟩ = some (.func (.func 82) #[] #[]) := blk_cell hF 0
    have f1 : (w1.alloc (.cells #[.func (.func 82) #[] #[], .nilFunc] 114)).cell? ⟨w1.heap.size, 1, none⟩ = some (.nilFunc) := blk_cell hF 1
    have c0 : (w1.alloc (.cells #[.func (.func 82) #[] #[], .nilFunc] 114)).cell? ⟨w.heap.size, 0, none⟩ = some (.slice A n cap) := blk_cell hb 0
    have c1 : (w1.alloc (.cells #[.func (.func 82) #[] #[], .nilFunc] 114)).cell? ⟨w.heap.size, 1, none⟩ = some (.int .i64 K) := blk_cell hb 1
    clear WY hk1
    go_wp2_with fail
    exact bodyPost_ret (v := .tuple #[.slice none 0 0, .int .i64 0, .int .i64 170]) (by simp [results, Tryz.results23, go_sem]) rfl ⟨none, 0, rfl, Rd.nil _ _ _, ka⟩
set_option maxRecDepth 100000 in
set_option maxHeartbeats 4000000 in
theorem mcounts_3 (A : Option Addr) (cap n : Nat) (xs : List Int) (K : Int) (s : ByteArray) (size : Int) (hu : U64 xs) (hl : xs.length = 4 * n) (hn : n ≤ 1000000) (hsz : s.size ≤ 900000) (w : World) (hr : Rd .u64 w A xs) : Calls Tryz.prog 23 #[.int .i64 3, leafV A n cap K, .string s, .int .i64 size] w (AnsI (mCL 3 xs n K s size) (mCN 3 xs n K s.size size) (mCE 3 xs n K s.size size) w) := by
  have WY := fun w1 => ways_3 w1
  have hb := blk_new w (.cells #[.slice A n cap, .int .i64 K] 61)
  have ka := kept_alloc (kept_refl w) (.cells #[.slice A n cap, .int .i64 K] 61)
  have hfn := fn_nil
  have hnn := nil_nil
  show Calls _ _ _ _ (AnsI [] 0 170 w)
  unfold AnsI
  · skip
    go_enter Tryz.func23, Tryz.ntmps23
    go_wp2_with fail
    refine (WY _).mono ?_
    rintro e w1 ⟨rfl, hk1⟩
    replace hb := blk_kept hk1 hb
    replace ka := kept_trans ka hk1
    have hF := blk_new w1 (.cells #[.func (.func 84) #[] #[], .nilFunc] 114)
    have kf := kept_alloc (kept_refl w1) (.cells #[.func (.func 84) #[] #[], .nilFunc] 114)
    replace hb := blk_kept kf hb
    replace ka := kept_trans ka kf
    have f0 : (w1.alloc (.cells #[.func (.func 84) #[] #[], .nilFunc] 114)).cell? ⟨w1.heap.size, 0, none⟩ = some (.func (.func 84) #[] #[]) := blk_cell hF 0
    have f1 : (w1.alloc (.cells #[.func (.func 84) #[] #[], .nilFunc] 114)).cell? ⟨w1.heap.size, 1, none⟩ = some (.nilFunc) := blk_cell hF 1
    have c0 : (w1.alloc (.cells #[.func (.func 84) #[] #[], .nilFunc] 114)).cell? ⟨w.heap.size, 0, none⟩ = some (.slice A n cap) := blk_cell hb 0
    have c1 : (w1.alloc (.cells #[.func (.func 84) #[] #[], .nilFunc] 114)).cell? ⟨w.heap.size, 1, none⟩ = some (.int .i64 K) := blk_cell hb 1
    clear WY hk1
    go_wp2_with fail
    exact bodyPost_ret (v := .tuple #[.slice none 0 0, .int .i64 0, .int .i64 170]) (by simp [results, Tryz.results23, go_sem]) rfl ⟨none, 0, rfl, Rd.nil _ _ _, ka⟩
set_option maxRecDepth 100000 in
set_option maxHeartbeats 4000000 in
theorem mcounts_4 (A : Option Addr) (cap n : Nat) (xs : List Int) (K : Int) (s : ByteArray) (size : Int) (hu : U64 xs) (hl : xs.length = 4 * n) (hn : n ≤ 1000000) (hsz : s.size ≤ 900000) (w : World) (hr : Rd .u64 w A xs) : Calls Tryz.prog 23 #[.int .i64 4, leafV A n cap K, .string s, .int .i64 size] w (AnsI (mCL 4 xs n K s size) (mCN 4 xs n K s.size size) (mCE 4 xs n K s.size size) w) := by
  have CK := fun w1 h => mcheck_c 4 (by decide) A cap n xs K s size hu hl hn (by omega) w1 h
  have WY := fun w1 => ways_4 w1
  have hb := blk_new w (.cells #[.slice A n cap, .int .i64 K] 61)
  have ka := kept_alloc (kept_refl w) (.cells #[.slice A n cap, .int .i64 K] 61)
  have hfn := fn_nil
  have hnn := nil_nil
  by_cases hE : matE 4 xs n K s.size size = 0
  · have e1 : mCL 4 xs n K s size = waC 4 xs n K s size := if_pos hE
    have e2 : mCN 4 xs n K s.size size = waN 4 xs n K s.size size := if_pos hE
    have e3 : mCE 4 xs n K s.size size = waE 4 xs n K s.size size := if_pos hE
    rw [e1, e2, e3]
    have C : ∀ w1, Rd .u64 w1 A xs → Calls Tryz.prog 86 #[leafV A n cap K, .string s, .int .i64 size] w1 (AnsI (waC 4 xs n K s size) (waN 4 xs n K s.size size) (waE 4 xs n K s.size size) w1) := fun w1 h => symcounts_c A cap n xs K s size hu hl hn hsz w1 h
    clear e1 e2 e3
    unfold AnsI at *
    rw [hE] at CK
    clear hE
    generalize waC 4 xs n K s size = zl at *
    generalize waN 4 xs n K s.size size = zn at *
    generalize waE 4 xs n K s.size size = ze at *
    go_enter Tryz.func23, Tryz.ntmps23
    go_wp2_with fail
    refine (WY _).mono ?_
    rintro e w1 ⟨rfl, hk1⟩
    replace hb := blk_kept hk1 hb
    replace ka := kept_trans ka hk1
    have hF := blk_new w1 (.cells #[.func (.func 85) #[] #[], .func (.func 86) #[] #[]] 114)
    have kf := kept_alloc (kept_refl w1) (.cells #[.func (.func 85) #[] #[], .func (.func 86) #[] #[]] 114)
    replace hb := blk_kept kf hb
    replace ka := kept_trans ka kf
    have f0 : (w1.alloc (.cells #[.func (.func 85) #[] #[], .func (.func 86) #[] #[]] 114)).cell? ⟨w1.heap.size, 0, none⟩ = some (.func (.func 85) #[] #[]) := blk_cell hF 0
    have f1 : (w1.alloc (.cells #[.func (.func 85) #[] #[], .func (.func 86) #[] #[]] 114)).cell? ⟨w1.heap.size, 1, none⟩ = some (.func (.func 86) #[] #[]) := blk_cell hF 1
    have c0 : (w1.alloc (.cells #[.func (.func 85) #[] #[], .func (.func 86) #[] #[]] 114)).cell? ⟨w.heap.size, 0, none⟩ = some (.slice A n cap) := blk_cell hb 0
    have c1 : (w1.alloc (.cells #[.func (.func 85) #[] #[], .func (.func 86) #[] #[]] 114)).cell? ⟨w.heap.size, 1, none⟩ = some (.int .i64 K) := blk_cell hb 1
    clear WY hk1
    go_wp2_with fail
    refine (CK _ (hr.kept ka)).mono ?_
    rintro e w2 ⟨rfl, hk2⟩
    replace hb := blk_kept hk2 hb
    replace hF := blk_kept hk2 hF
    replace ka := kept_trans ka hk2
    generalize w1.heap.size = bf at *
    replace f0 : w2.cell? ⟨bf, 0, none⟩ = some (.func (.func 85) #[] #[]) := blk_cell hF 0
    replace f1 : w2.cell? ⟨bf, 1, none⟩ = some (.func (.func 86) #[] #[]) := blk_cell hF 1
    replace c0 : w2.cell? ⟨w.heap.size, 0, none⟩ = some (.slice A n cap) := blk_cell hb 0
    replace c1 : w2.cell? ⟨w.heap.size, 1, none⟩ = some (.int .i64 K) := blk_cell hb 1
    clear CK hk2 kf
    go_wp2_with fail
    refine (C _ (hr.kept ka)).mono ?_
    rintro e w3 ⟨A3, c3, rfl, rd3, hk3⟩
    have HR := Lib.hid (⟨rd3, kept_trans ka hk3⟩ : _ ∧ _)
    clear rd3 hk3 C f0 f1 c0 c1 hb hF
    generalize hzz : zl.length = zz at *
    have HZ := Lib.hid hzz
    clear hzz
    go_wp2_with fail
    exact bodyPost_ret (v := .tuple #[.slice A3 zz c3, .int .i64 zn, .int .i64 ze]) (by simp [results, Tryz.results23, go_sem]) rfl ⟨A3, c3, by rw [HZ.out], HR.out.1, HR.out.2⟩
  · have e1 : mCL 4 xs n K s size = [] := if_neg hE
    have e2 : mCN 4 xs n K s.size size = 0 := if_neg hE
    have e3 : mCE 4 xs n K s.size size = matE 4 xs n K s.size size := if_neg hE
    rw [e1, e2, e3]
    clear e1 e2 e3
    unfold AnsI
    generalize matE 4 xs n K s.size size = er at *
    have hne : (er != 0) = true := by simpa using hE
    go_enter Tryz.func23, Tryz.ntmps23
    go_wp2_with fail
    refine (WY _).mono ?_
    rintro e w1 ⟨rfl, hk1⟩
    replace hb := blk_kept hk1 hb
    replace ka := kept_trans ka hk1
    have hF := blk_new w1 (.cells #[.func (.func 85) #[] #[], .func (.func 86) #[] #[]] 114)
    have kf := kept_alloc (kept_refl w1) (.cells #[.func (.func 85) #[] #[], .func (.func 86) #[] #[]] 114)
    replace hb := blk_kept kf hb
    replace ka := kept_trans ka kf
    have f0 : (w1.alloc (.cells #[.func (.func 85) #[] #[], .func (.func 86) #[] #[]] 114)).cell? ⟨w1.heap.size, 0, none⟩ = some (.func (.func 85) #[] #[]) := blk_cell hF 0
    have f1 : (w1.alloc (.cells #[.func (.func 85) #[] #[], .func (.func 86) #[] #[]] 114)).cell? ⟨w1.heap.size, 1, none⟩ = some (.func (.func 86) #[] #[]) := blk_cell hF 1
    have c0 : (w1.alloc (.cells #[.func (.func 85) #[] #[], .func (.func 86) #[] #[]] 114)).cell? ⟨w.heap.size, 0, none⟩ = some (.slice A n cap) := blk_cell hb 0
    have c1 : (w1.alloc (.cells #[.func (.func 85) #[] #[], .func (.func 86) #[] #[]] 114)).cell? ⟨w.heap.size, 1, none⟩ = some (.int .i64 K) := blk_cell hb 1
    clear WY hk1
    go_wp2_with fail
    refine (CK _ (hr.kept ka)).mono ?_
    rintro e w2 ⟨rfl, hk2⟩
    replace hb := blk_kept hk2 hb
    replace hF := blk_kept hk2 hF
    replace ka := kept_trans ka hk2
    generalize w1.heap.size = bf at *
    replace f0 : w2.cell? ⟨bf, 0, none⟩ = some (.func (.func 85) #[] #[]) := blk_cell hF 0
    replace f1 : w2.cell? ⟨bf, 1, none⟩ = some (.func (.func 86) #[] #[]) := blk_cell hF 1
    replace c0 : w2.cell? ⟨w.heap.size, 0, none⟩ = some (.slice A n cap) := blk_cell hb 0
    replace c1 : w2.cell? ⟨w.heap.size, 1, none⟩ = some (.int .i64 K) := blk_cell hb 1
    clear CK hk2 kf
    go_wp2_with fail
    exact bodyPost_ret (v := .tuple #[.slice none 0 0, .int .i64 0, .int .i64 er]) (by simp [results, Tryz.results23, go_sem]) rfl ⟨none, 0, rfl, Rd.nil _ _ _, ka⟩
set_option maxRecDepth 100000 in
set_option maxHeartbeats 4000000 in
theorem mcounts_5 (A : Option Addr) (cap n : Nat) (xs : List Int) (K : Int) (s : ByteArray) (size : Int) (hu : U64 xs) (hl : xs.length = 4 * n) (hn : n ≤ 1000000) (hsz : s.size ≤ 900000) (w : World) (hr : Rd .u64 w A xs) : Calls Tryz.prog 23 #[.int .i64 5, leafV A n cap K, .string s, .int .i64 size] w (AnsI (mCL 5 xs n K s size) (mCN 5 xs n K s.size size) (mCE 5 xs n K s.size size) w) := by
  have CK := fun w1 h => mcheck_c 5 (by decide) A cap n xs K s size hu hl hn (by omega) w1 h
  have WY := fun w1 => ways_5 w1
  have hb := blk_new w (.cells #[.slice A n cap, .int .i64 K] 61)
  have ka := kept_alloc (kept_refl w) (.cells #[.slice A n cap, .int .i64 K] 61)
  have hfn := fn_nil
  have hnn := nil_nil
  by_cases hE : matE 5 xs n K s.size size = 0
  · have e1 : mCL 5 xs n K s size = waC 5 xs n K s size := if_pos hE
    have e2 : mCN 5 xs n K s.size size = waN 5 xs n K s.size size := if_pos hE
    have e3 : mCE 5 xs n K s.size size = waE 5 xs n K s.size size := if_pos hE
    rw [e1, e2, e3]
    have C : ∀ w1, Rd .u64 w1 A xs → Calls Tryz.prog 89 #[leafV A n cap K, .string s, .int .i64 size] w1 (AnsI (waC 5 xs n K s size) (waN 5 xs n K s.size size) (waE 5 xs n K s.size size) w1) := fun w1 h => ways5_c A cap n xs K s size hu hl hn hsz w1 h
    clear e1 e2 e3
    unfold AnsI at *
    rw [hE] at CK
    clear hE
    generalize waC 5 xs n K s size = zl at *
    generalize waN 5 xs n K s.size size = zn at *
    generalize waE 5 xs n K s.size size = ze at *
    go_enter Tryz.func23, Tryz.ntmps23
    go_wp2_with fail
    refine (WY _).mono ?_
    rintro e w1 ⟨rfl, hk1⟩
    replace hb := blk_kept hk1 hb
    replace ka := kept_trans ka hk1
    have hF := blk_new w1 (.cells #[.func (.func 87) #[] #[], .func (.func 89) #[] #[]] 114)
    have kf := kept_alloc (kept_refl w1) (.cells #[.func (.func 87) #[] #[], .func (.func 89) #[] #[]] 114)
    replace hb := blk_kept kf hb
    replace ka := kept_trans ka kf
    have f0 : (w1.alloc (.cells #[.func (.func 87) #[] #[], .func (.func 89) #[] #[]] 114)).cell? ⟨w1.heap.size, 0, none⟩ = some (.func (.func 87) #[] #[]) := blk_cell hF 0
    have f1 : (w1.alloc (.cells #[.func (.func 87) #[] #[], .func (.func 89) #[] #[]] 114)).cell? ⟨w1.heap.size, 1, none⟩ = some (.func (.func 89) #[] #[]) := blk_cell hF 1
    have c0 : (w1.alloc (.cells #[.func (.func 87) #[] #[], .func (.func 89) #[] #[]] 114)).cell? ⟨w.heap.size, 0, none⟩ = some (.slice A n cap) := blk_cell hb 0
    have c1 : (w1.alloc (.cells #[.func (.func 87) #[] #[], .func (.func 89) #[] #[]] 114)).cell? ⟨w.heap.size, 1, none⟩ = some (.int .i64 K) := blk_cell hb 1
    clear WY hk1
    go_wp2_with fail
    refine (CK _ (hr.kept ka)).mono ?_
    rintro e w2 ⟨rfl, hk2⟩
    replace hb := blk_kept hk2 hb
    replace hF := blk_kept hk2 hF
    replace ka := kept_trans ka hk2
    generalize w1.heap.size = bf at *
    replace f0 : w2.cell? ⟨bf, 0, none⟩ = some (.func (.func 87) #[] #[]) := blk_cell hF 0
    replace f1 : w2.cell? ⟨bf, 1, none⟩ = some (.func (.func 89) #[] #[]) := blk_cell hF 1
    replace c0 : w2.cell? ⟨w.heap.size, 0, none⟩ = some (.slice A n cap) := blk_cell hb 0
    replace c1 : w2.cell? ⟨w.heap.size, 1, none⟩ = some (.int .i64 K) := blk_cell hb 1
    clear CK hk2 kf
    go_wp2_with fail
    refine (C _ (hr.kept ka)).mono ?_
    rintro e w3 ⟨A3, c3, rfl, rd3, hk3⟩
    have HR := Lib.hid (⟨rd3, kept_trans ka hk3⟩ : _ ∧ _)
    clear rd3 hk3 C f0 f1 c0 c1 hb hF
    generalize hzz : zl.length = zz at *
    have HZ := Lib.hid hzz
    clear hzz
    go_wp2_with fail
    exact bodyPost_ret (v := .tuple #[.slice A3 zz c3, .int .i64 zn, .int .i64 ze]) (by simp [results, Tryz.results23, go_sem]) rfl ⟨A3, c3, by rw [HZ.out], HR.out.1, HR.out.2⟩
  · have e1 : mCL 5 xs n K s size = [] := if_neg hE
    have e2 : mCN 5 xs n K s.size size = 0 := if_neg hE
    have e3 : mCE 5 xs n K s.size size = matE 5 xs n K s.size size := if_neg hE
    rw [e1, e2, e3]
    clear e1 e2 e3
    unfold AnsI
    generalize matE 5 xs n K s.size size = er at *
    have hne : (er != 0) = true := by simpa using hE
    go_enter Tryz.func23, Tryz.ntmps23
    go_wp2_with fail
    refine (WY _).mono ?_
    rintro e w1 ⟨rfl, hk1⟩
    replace hb := blk_kept hk1 hb
    replace ka := kept_trans ka hk1
    have hF := blk_new w1 (.cells #[.func (.func 87) #[] #[], .func (.func 89) #[] #[]] 114)
    have kf := kept_alloc (kept_refl w1) (.cells #[.func (.func 87) #[] #[], .func (.func 89) #[] #[]] 114)
    replace hb := blk_kept kf hb
    replace ka := kept_trans ka kf
    have f0 : (w1.alloc (.cells #[.func (.func 87) #[] #[], .func (.func 89) #[] #[]] 114)).cell? ⟨w1.heap.size, 0, none⟩ = some (.func (.func 87) #[] #[]) := blk_cell hF 0
    have f1 : (w1.alloc (.cells #[.func (.func 87) #[] #[], .func (.func 89) #[] #[]] 114)).cell? ⟨w1.heap.size, 1, none⟩ = some (.func (.func 89) #[] #[]) := blk_cell hF 1
    have c0 : (w1.alloc (.cells #[.func (.func 87) #[] #[], .func (.func 89) #[] #[]] 114)).cell? ⟨w.heap.size, 0, none⟩ = some (.slice A n cap) := blk_cell hb 0
    have c1 : (w1.alloc (.cells #[.func (.func 87) #[] #[], .func (.func 89) #[] #[]] 114)).cell? ⟨w.heap.size, 1, none⟩ = some (.int .i64 K) := blk_cell hb 1
    clear WY hk1
    go_wp2_with fail
    refine (CK _ (hr.kept ka)).mono ?_
    rintro e w2 ⟨rfl, hk2⟩
    replace hb := blk_kept hk2 hb
    replace hF := blk_kept hk2 hF
    replace ka := kept_trans ka hk2
    generalize w1.heap.size = bf at *
    replace f0 : w2.cell? ⟨bf, 0, none⟩ = some (.func (.func 87) #[] #[]) := blk_cell hF 0
    replace f1 : w2.cell? ⟨bf, 1, none⟩ = some (.func (.func 89) #[] #[]) := blk_cell hF 1
    replace c0 : w2.cell? ⟨w.heap.size, 0, none⟩ = some (.slice A n cap) := blk_cell hb 0
    replace c1 : w2.cell? ⟨w.heap.size, 1, none⟩ = some (.int .i64 K) := blk_cell hb 1
    clear CK hk2 kf
    go_wp2_with fail
    exact bodyPost_ret (v := .tuple #[.slice none 0 0, .int .i64 0, .int .i64 er]) (by simp [results, Tryz.results23, go_sem]) rfl ⟨none, 0, rfl, Rd.nil _ _ _, ka⟩
end Go.Proofs.YtdejablhpljdfaaGreat
namespace Go.Proofs.YtdejablhpljdfaaGreat
open Go.RowKit BG
attribute [local go_sem ↓] Go.wp_at_zero Go.wp_at_succ run_max_at run_min_at
set_option linter.unusedVariables false
theorem rd_newsI {w : World} {ad : Addr} {xs : List Int} (h : Rd .i64 w (some ad) xs) : ∀ j u, (xs.map (Value.int .i64))[j]? = some u → w.cell? (ad.add j) = some u := by
  intro j u hu
  rw [List.getElem?_map] at hu
  by_cases hj : j < xs.length
  · obtain ⟨ad', e, hc⟩ := h.at_ hj
    cases e
    rw [List.getElem?_eq_getElem hj, Option.map_some] at hu
    rw [hc, nth_lt hj]; exact hu
  · rw [List.getElem?_eq_none (by omega)] at hu; cases hu
set_option maxRecDepth 100000 in
set_option maxHeartbeats 2000000 in
theorem cloneI_some (ad : Addr) (cap : Nat) (xs : List Int) (hm : xs.length ≤ 17592186043904) (w : World) (hr : Rd .i64 w (some ad) xs) : Calls Tryz.prog 43 #[.slice (some ad) xs.length cap] w fun e w' => ∃ g c, e = .returned (.slice (some ⟨g, 0, none⟩) xs.length c) ∧ Own .i64 3 w.heap.size w' (.slice (some ⟨g, 0, none⟩) xs.length c) xs ∧ Kept w w' := by
  obtain ⟨i1, hif1, hy0, hy1, hy2⟩ := info_parts info_i64c
  generalize hmm : xs.length = m at *
  have hn := nilI_eq (some ad) m cap w
  have hown : (w.alloc (.cells #[] 3)).ownsRow w.heap.size 3 1 (.slice (some ⟨w.heap.size, 0, none⟩) 0 0) 0 [] := ⟨rfl, .inr ⟨w.heap.size, 0, #[], rfl, Nat.le_refl _, blk_new w _, Nat.le_refl _, by unfold maxLen; omega, rfl, rfl⟩⟩
  have ka := kept_alloc (kept_refl w) (.cells #[] 3)
  have rda := hr.kept ka
  go_enter Tryz.func43, Tryz.ntmps43
  go_wp2_with (at_builtin; refine wpList_append_own _ rfl _ _ 24 rfl w.heap.size 3 i1 _ 1 8 Tryz.underlying24 hif1 hy0 hy1 hy2 rfl (by decide) _ 0 _ rfl hown ad m cap (xs.map (Value.int .i64)) rfl ?c0 (rd_newsI rda) ?c1 ?c2 ?c3 ?c4 ?_)
  case c0 => rw [List.length_map]; omega
  case c1 => intro u hu; obtain ⟨z, _, rfl⟩ := List.mem_map.1 hu; rfl
  case c2 => unfold maxLen; omega
  case c3 => omega
  case c4 => simp
  intro v' w1 o1 hg1 hnil
  have hk := kept_grow ka hg1 (by rintro k h; cases h; exact Nat.le_refl _)
  have hv : ∃ g c, v' = .slice (some ⟨g, 0, none⟩) m c := by
    rcases o1.2 with ⟨h, _⟩ | ⟨g, c, cur, h, _⟩
    · exact (hnil h).elim
    · exact ⟨g, c, h⟩
  obtain ⟨g, c, rfl⟩ := hv
  have HO : Hid (Own .i64 3 w.heap.size w1 (.slice (some ⟨g, 0, none⟩) m c) xs) := by
    refine Lib.hid ?_
    unfold Own
    rw [hmm]
    simpa using o1
  clear hnil hg1 hown rda ka o1
  go_wp2_with fail
  go_ret
  exact ⟨g, c, rfl, HO.out, hk⟩
set_option maxRecDepth 100000 in
set_option maxHeartbeats 1000000 in
theorem cloneI_c (A : Option Addr) (cap : Nat) (xs : List Int) (hm : xs.length ≤ 17592186043904) (w : World) (hA : A = none → xs.length = 0 ∧ cap = 0) (hr : Rd .i64 w A xs) : Calls Tryz.prog 43 #[.slice A xs.length cap] w fun e w' => ∃ B c, e = .returned (.slice B xs.length c) ∧ Own .i64 3 w.heap.size w' (.slice B xs.length c) xs ∧ Kept w w' := by
  cases A with
  | some ad =>
    refine (cloneI_some ad cap xs hm w hr).mono ?_
    rintro e w' ⟨g, c, rfl, h, k⟩
    exact ⟨_, c, rfl, h, k⟩
  | none =>
    obtain ⟨h0, rfl⟩ := hA rfl
    obtain rfl : xs = [] := List.length_eq_zero_iff.1 h0
    have hn := nilI_eq none 0 0 w
    show Calls _ _ #[.slice none 0 0] w _
    go_enter Tryz.func43, Tryz.ntmps43
    go_wp2_with fail
    go_ret
    exact ⟨none, 0, rfl, Own.nil _ _ _ _, kept_refl _⟩
def feedO (t : ByteArray) (P : Option Addr) (m c : Nat) (from_ to_ : Nat) (end_ : Int) : Obj := .cells #[.string t, .slice P m c, .int .i64 (from_ : Nat), .int .i64 (to_ : Nat), .int .i64 end_] 104
def feedTo (t : ByteArray) (fail : Int) : Nat := if 0 ≤ fail ∧ fail ≤ (t.size : Int) then fail.toNat else t.size
def feedEnd (t : ByteArray) (fail : Int) : Int := if 0 ≤ fail ∧ fail ≤ (t.size : Int) then 2 else 1
set_option maxRecDepth 100000 in
set_option maxHeartbeats 4000000 in
theorem feednew_c (t : ByteArray) (A : Option Addr) (cap : Nat) (ys : List Int) (fail : Int) (ht : t.size ≤ 9223372036854775807) (hm : ys.length ≤ 17592186043904) (w : World) (hA : A = none → ys.length = 0 ∧ cap = 0) (hr : Rd .i64 w A ys) : Calls Tryz.prog 16 #[.string t, .slice A ys.length cap, .int .i64 fail] w fun e w' => ∃ B P c, e = .returned (.pointer (some ⟨B, 0, none⟩)) ∧ w.heap.size ≤ B ∧ w'.heap[B]? = some (feedO t P ys.length c 0 (feedTo t fail) (feedEnd t fail)) ∧ Own .i64 3 w.heap.size w' (.slice P ys.length c) ys ∧ Kept w w' := by
  have CL := fun w1 h => cloneI_c A cap ys hm w1 hA h
  have hto : feedTo t fail = if 0 ≤ fail ∧ fail ≤ (t.size : Int) then fail.toNat else t.size := rfl
  have hen : feedEnd t fail = if 0 ≤ fail ∧ fail ≤ (t.size : Int) then 2 else 1 := rfl
  have HT := Lib.hid (⟨hto, hen⟩ : _ ∧ _)
  clear hto hen hA
  generalize feedTo t fail = fto at *
  generalize feedEnd t fail = fen at *
  generalize hmm : ys.length = m at *
  clear hmm
  go_enter Tryz.func16, Tryz.ntmps16
  go_wp2_with fail
  refine (CL _ hr).mono ?_
  rintro e w1 ⟨P, c, rfl, own, hk1⟩
  clear CL
  have hB := blk_new w1 (.cells #[.string t, .slice P m c, .int .i64 0, .int .i64 (t.size : Nat), .int .i64 1] 104)
  have ka := kept_alloc (kept_refl w1) (.cells #[.string t, .slice P m c, .int .i64 0, .int .i64 (t.size : Nat), .int .i64 1] 104)
  have hs1 := hk1.size
  have HO := Lib.hid (⟨own, hk1⟩ : _ ∧ _)
  have c3 := blk_cell hB 3
  have c4 := blk_cell hB 4
  have f3 := blk_frozen hB 3
  have f4 := blk_frozen hB 4
  clear own ka hr hk1 hB
  by_cases hf : 0 ≤ fail ∧ fail ≤ (t.size : Int)
  · obtain ⟨hf1, hf2⟩ := hf
    have hx := HT.out
    rw [if_pos ⟨hf1, hf2⟩, if_pos ⟨hf1, hf2⟩] at hx
    obtain ⟨rfl, rfl⟩ := hx
    obtain ⟨fl, rfl⟩ : ∃ fl : Nat, fail = fl := ⟨fail.toNat, by omega⟩
    have d1 : decide ((0 : Int) ≤ (fl : Int)) = true := decide_eq_true hf1
    have d2 : decide ((fl : Int) ≤ (t.size : Int)) = true := decide_eq_true hf2
    have d2n : decide (fl ≤ t.size) = true := decide_eq_true (by omega)
    clear HT
    go_wp2_with fail
    go_ret
    exact ⟨_, P, c, rfl, hs1, blk_new _ _, HO.out.1.kept (kept_alloc (kept_refl w1) _), kept_alloc HO.out.2 _⟩
  · have hx := HT.out
    rw [if_neg hf, if_neg hf] at hx
    obtain ⟨rfl, rfl⟩ := hx
    by_cases hf1 : 0 ≤ fail
    · have d1 : decide ((0 : Int) ≤ fail) = true := decide_eq_true hf1
      have d2 : decide (fail ≤ (t.size : Int)) = false := decide_eq_false (fun h => hf ⟨hf1, h⟩)
      clear HT hf
      go_wp2_with fail
      go_ret
      exact ⟨_, P, c, rfl, hs1, blk_new _ _, HO.out.1.kept (kept_alloc (kept_refl w1) _), kept_alloc HO.out.2 _⟩
    · have d1 : decide ((0 : Int) ≤ fail) = false := decide_eq_false hf1
      clear HT hf
      go_wp2_with fail
      go_ret
      exact ⟨_, P, c, rfl, hs1, blk_new _ _, HO.out.1.kept (kept_alloc (kept_refl w1) _), kept_alloc HO.out.2 _⟩
end Go.Proofs.YtdejablhpljdfaaGreat
namespace Go.Proofs.YtdejablhpljdfaaGreat
open Go.RowKit BG
attribute [local go_sem ↓] Go.wp_at_zero Go.wp_at_succ run_max_at run_min_at
set_option linter.unusedVariables false
def feedN (ys : List Int) (d : Nat) : Nat := match ys with
  | [] => d
  | y :: _ => (max 0 (min (d : Int) y)).toNat
theorem feedN_le (ys : List Int) (d : Nat) : feedN ys d ≤ d := by
  unfold feedN
  split <;> omega
theorem grown_of_kept {w w1 : World} {row : Option Nat} (h : Kept w w1) : w.grownBy w1 row := ⟨h.os, h.tape, h.output, h.size, fun i hi _ => h.block i hi⟩
theorem Rd.of_nil {k : IntKind} {w w1 : World} {A : Option Addr} (h : Rd k w A []) : Rd k w1 A [] := ⟨h.1, fun h0 => absurd h0 (by simp)⟩
theorem add_next (ad : Addr) (j : Nat) : ad.add (j + 1) = (⟨ad.block, ad.off + 1, none⟩ : Addr).add j := by
  unfold Addr.add
  by_cases h : j = 0
  · subst h; simp
  · simp [h]; omega
def FeedS (t : ByteArray) (ys : List Int) (a b : Nat) (en : Int) (B : Nat) (Y : Nat → Prop) (W : World) : Prop := ∃ P c, W.heap[B]? = some (feedO t P ys.length c a b en) ∧ Rd .i64 W P ys ∧ (∀ ad, P = some ad → Y ad.block) ∧ ys.length ≤ c ∧ c ≤ 9223372036854775807
set_option maxRecDepth 100000 in
set_option maxHeartbeats 4000000 in
theorem feedread_end (t : ByteArray) (ys : List Int) (b : Nat) (en : Int) (B : Nat) (Y : Nat → Prop) (hY : ¬ Y B) (hb : b ≤ t.size) (ht : t.size ≤ 900000) (w : World) (h : FeedS t ys b b en B Y w) : Calls Tryz.prog 44 #[.pointer (some ⟨B, 0, none⟩)] w (Ret (.tuple #[.string ⟨#[]⟩, .int .i64 en]) w) := by
  obtain ⟨P, c, hB, hr, hP, h1, h2⟩ := h
  unfold feedO at hB
  have q2 := blk_cell hB 2
  have q3 := blk_cell hB 3
  have q4 := blk_cell hB 4
  have hBa := blk_alloc hB (.cells #[.int .i64 0, .int .i64 0] 102)
  have p2 := blk_cell hBa 2
  have p3 := blk_cell hBa 3
  go_enter Tryz.func44, Tryz.ntmps44
  go_wp2_with fail
  go_region
  have k1 := kept_drew (kept_alloc (kept_refl w) (.cells #[.int .i64 (b : Nat), .int .i64 (b : Nat)] 102))
  have hB1 := blk_kept k1 hB
  have hS := blk_kept (kept_drew (kept_refl _)) (blk_new w (.cells #[.int .i64 (b : Nat), .int .i64 (b : Nat)] 102))
  generalize (w.alloc (.cells #[.int .i64 (b : Nat), .int .i64 (b : Nat)] 102)).drew = w1 at *
  clear q2 q3 q4 p2 p3 hBa
  have q2 := blk_cell hB1 2
  have q3 := blk_cell hB1 3
  have q4 := blk_cell hB1 4
  have s0 := blk_cell hS 0
  have s1 := blk_cell hS 1
  go_wp2_with fail
  go_quiet (fail)
  have hB2 := blk_kept (kept_drewN (kept_refl w1) nq) hB1
  have q4 := blk_cell hB2 4
  go_wp2_with fail
  go_quiet (fail)
  go_wp2_with fail
  exact bodyPost_ret (v := .tuple #[.string ⟨#[]⟩, .int .i64 en]) (by simp [results, Tryz.results44, go_sem]) rfl ⟨rfl, kept_drewN (kept_drewN k1 _) _⟩
set_option maxRecDepth 100000 in
set_option maxHeartbeats 8000000 in
theorem feedread_nil (t : ByteArray) (a b : Nat) (en : Int) (B : Nat) (Y : Nat → Prop) (hY : ¬ Y B) (hab : a < b) (hb : b ≤ t.size) (ht : t.size ≤ 900000) (w : World) (h : FeedS t [] a b en B Y w) : Calls Tryz.prog 44 #[.pointer (some ⟨B, 0, none⟩)] w fun e w' => e = .returned (.tuple #[.string (t.extract a (a + feedN [] (b - a))), .int .i64 0]) ∧ FeedS t [] (a + feedN [] (b - a)) b en B Y w' ∧ w.grownBy w' (some B) := by
  obtain ⟨P, c, hB, hr, hP, h1, h2⟩ := h
  unfold feedO at hB
  have q2 := blk_cell hB 2
  have q3 := blk_cell hB 3
  have q4 := blk_cell hB 4
  have hBa := blk_alloc hB (.cells #[.int .i64 0, .int .i64 0] 102)
  have p2 := blk_cell hBa 2
  have p3 := blk_cell hBa 3
  obtain ⟨d, hd, hd2⟩ : ∃ d : Nat, (b : Int) - (a : Int) = d ∧ b - a = d := ⟨b - a, by omega, rfl⟩
  rw [hd2]
  have hf : feedN [] d = d := rfl
  rw [hf]
  clear hf
  have n1 : ((a : Int) == (b : Int)) = false := by rw [beq_eq_false_iff_ne]; omega
  have n2 : (a == b) = false := by rw [beq_eq_false_iff_ne]; omega
  have n3 : decide ((a : Int) = (b : Int)) = false := decide_eq_false (by omega)
  have n4 : decide (a = b) = false := decide_eq_false (by omega)
  go_enter Tryz.func44, Tryz.ntmps44
  go_wp2_with fail
  go_region
  have k1 := kept_drew (kept_alloc (kept_refl w) (.cells #[.int .i64 (b : Nat), .int .i64 (b : Nat)] 102))
  have hB1 := blk_kept k1 hB
  have hS := blk_kept (kept_drew (kept_refl _)) (blk_new w (.cells #[.int .i64 (b : Nat), .int .i64 (b : Nat)] 102))
  generalize (w.alloc (.cells #[.int .i64 (b : Nat), .int .i64 (b : Nat)] 102)).drew = w1 at *
  clear q2 q3 q4 p2 p3 hBa
  have q2 := blk_cell hB1 2
  have q3 := blk_cell hB1 3
  have q4 := blk_cell hB1 4
  have s0 := blk_cell hS 0
  have s1 := blk_cell hS 1
  go_wp2_with fail
  go_quiet (fail)
  have k2 := kept_drewN k1 nq
  have hB2 := blk_kept (kept_drewN (kept_refl w1) nq) hB1
  generalize w1.drewN nq = w2 at *
  clear q2 q3 q4 s0 s1 hS hB1
  have q2 := blk_cell hB2 2
  have q3 := blk_cell hB2 3
  go_wp2_with fail
  go_quiet (fail)
  have k3 := kept_drewN k2 nq
  have hB3 := blk_kept (kept_drewN (kept_refl w2) nq) hB2
  generalize w2.drewN nq = w3 at *
  clear q2 q3 hB2 n1 n2 n3 n4
  have r3 := hr.kept k3
  have q0 := blk_cell hB3 0
  have q1 := blk_cell hB3 1
  have q2 := blk_cell hB3 2
  have f1 := blk_frozen hB3 1
  have f2 := blk_frozen hB3 2
  have b2 := blk_set hB3 2 (.int .i64 ((a : Int) + (d : Int)))
  have z0 := blk_cell b2 0
  have hx1 : ((a : Int) + (d : Int)).toNat = a + d := by omega
  have G := setCell_grown w3 ⟨B, 2, none⟩ (.int .i64 ((a : Int) + (d : Int)))
  have HO := Lib.hid (⟨G, b2⟩ : _ ∧ _)
  clear G b2
  go_wp2_with fail
  obtain ⟨G, b2⟩ := HO.out
  exact bodyPost_ret (v := .tuple #[.string (t.extract a (a + d)), .int .i64 0]) (by simp [results, Tryz.results44, go_sem]) rfl ⟨rfl, ⟨P, c, by rw [b2]; simp [feedO], Rd.of_nil r3, hP, h1, h2⟩, grown_trans (grown_of_kept k3) G⟩
set_option maxRecDepth 100000 in
set_option maxHeartbeats 8000000 in
theorem feedread_cons (t : ByteArray) (y : Int) (r : List Int) (a b : Nat) (en : Int) (B : Nat) (Y : Nat → Prop) (hY : ¬ Y B) (hab : a < b) (hb : b ≤ t.size) (ht : t.size ≤ 900000) (w : World) (h : FeedS t (y :: r) a b en B Y w) : Calls Tryz.prog 44 #[.pointer (some ⟨B, 0, none⟩)] w fun e w' => e = .returned (.tuple #[.string (t.extract a (a + feedN (y :: r) (b - a))), .int .i64 0]) ∧ FeedS t r (a + feedN (y :: r) (b - a)) b en B Y w' ∧ w.grownBy w' (some B) := by
  obtain ⟨P, c, hB, hr, hP, h1, h2⟩ := h
  unfold feedO at hB
  have q2 := blk_cell hB 2
  have q3 := blk_cell hB 3
  have q4 := blk_cell hB 4
  have hBa := blk_alloc hB (.cells #[.int .i64 0, .int .i64 0] 102)
  have p2 := blk_cell hBa 2
  have p3 := blk_cell hBa 3
  obtain ⟨d, hd, hd2⟩ : ∃ d : Nat, (b : Int) - (a : Int) = d ∧ b - a = d := ⟨b - a, by omega, rfl⟩
  rw [hd2]
  obtain ⟨n, hn, hn2, hnd⟩ : ∃ n : Nat, max (0 : Int) (min (d : Int) y) = n ∧ feedN (y :: r) d = n ∧ n ≤ d := ⟨(max (0 : Int) (min (d : Int) y)).toNat, by omega, rfl, by omega⟩
  rw [hn2]
  clear hn2
  have n1 : ((a : Int) == (b : Int)) = false := by rw [beq_eq_false_iff_ne]; omega
  have n2 : (a == b) = false := by rw [beq_eq_false_iff_ne]; omega
  have n3 : decide ((a : Int) = (b : Int)) = false := decide_eq_false (by omega)
  have n4 : decide (a = b) = false := decide_eq_false (by omega)
  go_enter Tryz.func44, Tryz.ntmps44
  go_wp2_with fail
  go_region
  have k1 := kept_drew (kept_alloc (kept_refl w) (.cells #[.int .i64 (b : Nat), .int .i64 (b : Nat)] 102))
  have hB1 := blk_kept k1 hB
  have hS := blk_kept (kept_drew (kept_refl _)) (blk_new w (.cells #[.int .i64 (b : Nat), .int .i64 (b : Nat)] 102))
  generalize (w.alloc (.cells #[.int .i64 (b : Nat), .int .i64 (b : Nat)] 102)).drew = w1 at *
  clear q2 q3 q4 p2 p3 hBa
  have q2 := blk_cell hB1 2
  have q3 := blk_cell hB1 3
  have q4 := blk_cell hB1 4
  have s0 := blk_cell hS 0
  have s1 := blk_cell hS 1
  go_wp2_with fail
  go_quiet (fail)
  have k2 := kept_drewN k1 nq
  have hB2 := blk_kept (kept_drewN (kept_refl w1) nq) hB1
  generalize w1.drewN nq = w2 at *
  clear q2 q3 q4 s0 s1 hS hB1
  have q2 := blk_cell hB2 2
  have q3 := blk_cell hB2 3
  go_wp2_with fail
  go_quiet (fail)
  have k3 := kept_drewN k2 nq
  have hB3 := blk_kept (kept_drewN (kept_refl w2) nq) hB2
  generalize w2.drewN nq = w3 at *
  clear q2 q3 hB2 n1 n2 n3 n4
  have r3 := hr.kept k3
  have q0 := blk_cell hB3 0
  have q1 := blk_cell hB3 1
  have q2 := blk_cell hB3 2
  have f1 := blk_frozen hB3 1
  have f2 := blk_frozen hB3 2
  have hlen : (y :: r).length = r.length + 1 := rfl
  obtain ⟨ad, rfl, e0⟩ := r3.at_ (j := 0) (by rw [hlen]; omega)
  have ey : nth (y :: r) 0 = y := rfl
  have ea : ad.add 0 = ad := by unfold Addr.add; split <;> simp_all
  rw [ey, ea] at e0
  rw [hlen] at h1 hB3
  have hx1 : ((a : Int) + (n : Int)).toNat = a + n := by omega
  have RT : Rd .i64 w3 (some ⟨ad.block, ad.off + 1, none⟩) r := ⟨by have := r3.1; rw [hlen] at this; omega, fun h0 => ⟨_, rfl, fun j hj => by
    obtain ⟨ad2, e2, h3⟩ := r3.at_ (j := j + 1) (by rw [hlen]; omega)
    cases e2
    rw [← add_next ad j]
    exact h3⟩⟩
  have hP2 := hP ad rfl
  have hPB : ad.block ≠ B := fun e => hY (e ▸ hP2)
  have HO := Lib.hid (⟨hB3, RT, h1⟩ : _ ∧ _ ∧ _)
  clear RT r3 hP hlen ey ea hr
  go_wp2_with fail
  · obtain ⟨hB3, RT, h1⟩ := HO.out
    obtain rfl : r = [] := List.length_eq_zero_iff.1 (by omega)
    have G1 := setCell_grown w3 ⟨B, 1, none⟩ (.slice (some ad) 0 0)
    have G2 := setCell_grown (w3.setCell ⟨B, 1, none⟩ (.slice (some ad) 0 0)) ⟨B, 2, none⟩ (.int .i64 ((a : Int) + (n : Int)))
    exact bodyPost_ret (v := .tuple #[.string (t.extract a (a + n)), .int .i64 0]) (by simp [results, Tryz.results44, go_sem]) rfl ⟨rfl, ⟨some ad, 0, by have b2 := blk_set (blk_set hB3 1 (.slice (some ad) 0 0)) 2 (.int .i64 ((a : Int) + (n : Int))); exact b2.trans (by simp [feedO]), ⟨by simp, fun h0 => absurd h0 (by simp)⟩, fun ad' e => by cases e; exact hP2, by simp, by omega⟩, grown_trans (grown_of_kept k3) (grown_trans G1 G2)⟩
  · obtain ⟨hB3, RT, h1⟩ := HO.out
    have G1 := setCell_grown w3 ⟨B, 1, none⟩ (.slice (some ⟨ad.block, ad.off + 1, none⟩) r.length (c - 1))
    have G2 := setCell_grown (w3.setCell ⟨B, 1, none⟩ (.slice (some ⟨ad.block, ad.off + 1, none⟩) r.length (c - 1))) ⟨B, 2, none⟩ (.int .i64 ((a : Int) + (n : Int)))
    exact bodyPost_ret (v := .tuple #[.string (t.extract a (a + n)), .int .i64 0]) (by simp [results, Tryz.results44, go_sem]) rfl ⟨rfl, ⟨some ⟨ad.block, ad.off + 1, none⟩, c - 1, by have b2 := blk_set (blk_set hB3 1 (.slice (some ⟨ad.block, ad.off + 1, none⟩) r.length (c - 1))) 2 (.int .i64 ((a : Int) + (n : Int))); exact b2.trans (by simp [feedO]), rd_grown RT (grown_trans G1 G2) (fun ad' e h => by cases e; exact hPB (Option.some.inj h)), fun ad' e => by cases e; exact hP2, by omega, by omega⟩, grown_trans (grown_of_kept k3) (grown_trans G1 G2)⟩
end Go.Proofs.YtdejablhpljdfaaGreat
namespace Go.Proofs.YtdejablhpljdfaaGreat
open Go.RowKit BG
attribute [local go_sem ↓] Go.wp_at_zero Go.wp_at_succ run_max_at run_min_at
set_option linter.unusedVariables false
def Some1 (w : World) (e : Ending) (w' : World) : Prop := ∃ c : Int, e = .returned (.int .i64 c) ∧ Kept w w'
set_option maxRecDepth 100000 in
set_option maxHeartbeats 1000000 in
theorem cost1_c (bm : Nat) (xm : Int) (bn : Nat) (xn : Int) (w : World) (hm : w.cell? ⟨bm, 0, none⟩ = some (.int .i64 xm)) (hn : w.cell? ⟨bn, 0, none⟩ = some (.int .i64 xn)) : Calls Tryz.prog 242 #[.pointer (some ⟨bm, 0, none⟩), .pointer (some ⟨bn, 0, none⟩)] w (Some1 w) := by
  unfold Some1
  go_enter Tryz.func242, Tryz.ntmps242
  go_wp2_with fail
  go_ret
  exact ⟨_, rfl, kept_refl _⟩
set_option maxRecDepth 100000 in
set_option maxHeartbeats 1000000 in
theorem cost2_c (bn : Nat) (xn : Int) (bm : Nat) (xm : Int) (w : World) (hn : w.cell? ⟨bn, 0, none⟩ = some (.int .i64 xn)) (hm : w.cell? ⟨bm, 0, none⟩ = some (.int .i64 xm)) : Calls Tryz.prog 243 #[.pointer (some ⟨bn, 0, none⟩), .pointer (some ⟨bm, 0, none⟩)] w (Some1 w) := by
  unfold Some1
  go_enter Tryz.func243, Tryz.ntmps243
  go_wp2_with fail
  go_ret
  exact ⟨_, rfl, kept_refl _⟩
set_option maxRecDepth 100000 in
set_option maxHeartbeats 1000000 in
theorem cost3_c (bx : Nat) (xx : Int) (bn : Nat) (xn : Int) (w : World) (hx : w.cell? ⟨bx, 0, none⟩ = some (.int .i64 xx)) (hn : w.cell? ⟨bn, 0, none⟩ = some (.int .i64 xn)) : Calls Tryz.prog 244 #[.pointer (some ⟨bx, 0, none⟩), .pointer (some ⟨bn, 0, none⟩)] w (Some1 w) := by
  unfold Some1
  go_enter Tryz.func244, Tryz.ntmps244
  go_wp2_with fail
  go_ret
  exact ⟨_, rfl, kept_refl _⟩
set_option maxRecDepth 100000 in
set_option maxHeartbeats 1000000 in
theorem cost5_c (bx : Nat) (xx : Int) (bn : Nat) (xn : Int) (bf : Nat) (xf : Int) (bp : Nat) (xp : Int) (w : World) (hx : w.cell? ⟨bx, 0, none⟩ = some (.int .i64 xx)) (hn : w.cell? ⟨bn, 0, none⟩ = some (.int .i64 xn)) (hf : w.cell? ⟨bf, 0, none⟩ = some (.int .i64 xf)) (hp : w.cell? ⟨bp, 0, none⟩ = some (.int .i64 xp)) : Calls Tryz.prog 246 #[.pointer (some ⟨bx, 0, none⟩), .pointer (some ⟨bn, 0, none⟩), .pointer (some ⟨bf, 0, none⟩), .pointer (some ⟨bp, 0, none⟩)] w (Some1 w) := by
  unfold Some1
  go_enter Tryz.func246, Tryz.ntmps246
  go_wp2_with fail
  go_ret
  exact ⟨_, rfl, kept_refl _⟩
set_option maxRecDepth 100000 in
set_option maxHeartbeats 2000000 in
theorem cost4_c (bx bn bl : Nat) (xx xn : Int) (A : Option Addr) (cap n : Nat) (xs : List Int) (K : Int) (hu : U64 xs) (hl : xs.length = 4 * n) (hn : n ≤ 1000000) (w : World) (hr : Rd .u64 w A xs) (hx : w.cell? ⟨bx, 0, none⟩ = some (.int .i64 xx)) (hnn : w.cell? ⟨bn, 0, none⟩ = some (.int .i64 xn)) (h0 : w.cell? ⟨bl, 0, none⟩ = some (.slice A n cap)) (h1 : w.cell? ⟨bl, 1, none⟩ = some (.int .i64 K)) : Calls Tryz.prog 245 #[.pointer (some ⟨bx, 0, none⟩), .pointer (some ⟨bn, 0, none⟩), .pointer (some ⟨bl, 0, none⟩)] w (Some1 w) := by
  have KN := fun w1 h => lkinds_c A cap n xs K hu hl hn w1 h
  have kr := kept_refl w
  have hkl := kindsC_le xs n
  have hfl := flatC_length (kindsC xs n)
  unfold Some1
  go_enter Tryz.func245, Tryz.ntmps245
  go_wp2_with fail
  go_region_held3 (fun w' => w'.cell? ⟨bx, 0, none⟩ = some (.int .i64 xx) ∧ w'.cell? ⟨bn, 0, none⟩ = some (.int .i64 xn) ∧ w'.cell? ⟨bl, 0, none⟩ = some (.slice A n cap) ∧ w'.cell? ⟨bl, 1, none⟩ = some (.int .i64 K)) (first | exact ⟨by assumption, by assumption, by assumption, by assumption⟩ | exact ⟨kept_cell hk1 hx, kept_cell hk1 hnn, kept_cell hk1 h0, kept_cell hk1 h1⟩) (first | (go_at_call 197; refine (KN _ (hr.kept (kept_drew kr))).mono ?_; rintro e w1 ⟨v1, rfl, own1, hk1⟩; replace hk1 := kept_trans (kept_drew kr) hk1; obtain ⟨A1, cp1, rfl, -, -⟩ := ownN_rd own1 hfl (by omega)))
  go_wp2_with fail
  go_ret
  exact ⟨_, rfl, hk1⟩
end Go.Proofs.YtdejablhpljdfaaGreat
