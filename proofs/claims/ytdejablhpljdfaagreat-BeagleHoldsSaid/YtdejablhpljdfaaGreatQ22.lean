/-
  Texts of one claim, joined: TZed3, TZed4, TMatch1, TMatch2.
-/
import Derived.Test.YtdejablhpljdfaaGreatQ21
import Derived.Test.YtdejablhpljdfaaGreatQ07
namespace Go.Proofs.YtdejablhpljdfaaGreat
open Go.RowKit BG
attribute [local go_sem ↓] Go.wp_at_zero Go.wp_at_succ run_max_at run_min_at
set_option linter.unusedVariables false
set_option maxRecDepth 100000 in
set_option maxHeartbeats 1000000 in
theorem zrows_c (s : ByteArray) (hs : s.size ≤ 900000) (w : World) : Calls Tryz.prog 186 #[.string s] w fun e w' => ∃ g, e = .returned (.slice (some ⟨g, 0, none⟩) s.size s.size) ∧ w'.ownsRow w.heap.size 3 1 (.slice (some ⟨g, 0, none⟩) s.size s.size) s.size ((lcpL s s).map (Value.int .i64)) ∧ Kept w w' := by
  have R := fun w1 => rowsnil_c s hs w1
  go_enter Tryz.func186, Tryz.ntmps186
  go_wp2_with fail
  refine (R _).mono ?_
  rintro e w1 ⟨g, rfl, own, hk⟩
  clear R
  go_wp2_with fail
  go_ret
  exact ⟨g, rfl, own, hk⟩
def zhit (s t : ByteArray) (q : Nat) : List Int := ((List.range q).filter fun i => decide (lcp s t i = s.size)).map fun i => ((i : Nat) : Int)
def zedF (s t : ByteArray) : List Int := if s.size = 0 then [] else zhit s t t.size
theorem zhit_yes {s t : ByteArray} {q : Nat} (h : lcp s t q = s.size) : zhit s t (q + 1) = zhit s t q ++ [(q : Int)] := by
  unfold zhit
  rw [List.range_succ, List.filter_append, List.map_append]
  simp [h]
theorem zhit_no {s t : ByteArray} {q : Nat} (h : lcp s t q ≠ s.size) : zhit s t (q + 1) = zhit s t q := by
  unfold zhit
  rw [List.range_succ, List.filter_append, List.map_append]
  simp [h]
theorem zhit_len (s t : ByteArray) (q : Nat) : (zhit s t q).length ≤ q := by
  unfold zhit
  rw [List.length_map]
  exact Nat.le_trans (List.length_filter_le _ _) (by simp)
theorem size_zero {s : ByteArray} (h : s.size = 0) : s = ⟨#[]⟩ := by
  obtain ⟨d⟩ := s
  have h2 : d.size = 0 := h
  rw [Array.eq_empty_of_size_eq_zero h2]
theorem isEmpty_no {s : ByteArray} (h : s.size ≠ 0) : s.toList.isEmpty = false := by
  cases hh : s.toList.isEmpty
  · rfl
  · rw [List.isEmpty_iff, ByteArray.toList_eq] at hh
    exact absurd (show s.size = 0 by have := congrArg List.length hh; simpa using this) h
set_option maxRecDepth 100000 in
set_option maxHeartbeats 4000000 in
theorem zfind_c (s t : ByteArray) (hs : s.size ≤ 900000) (ht : t.size ≤ 900000) (w : World) : Calls Tryz.prog 142 #[.string s, .string t] w fun e w' => ∃ v, e = .returned v ∧ Own .i64 3 w.heap.size w' v (zedF s t) ∧ Kept w w' := by
  obtain ⟨i1, hif1, hy0, hy1, hy2⟩ := info_parts info_i64c
  by_cases h0 : s.size = 0
  · have hz : zedF s t = [] := if_pos h0
    rw [hz, size_zero h0]
    clear hz h0 hs
    go_enter Tryz.func142, Tryz.ntmps142
    go_wp2_with fail
    go_ret
    exact ⟨_, rfl, Own.nil _ _ _ _, kept_refl _⟩
  · have hz : zedF s t = zhit s t t.size := if_neg h0
    rw [hz]
    have hne := isEmpty_no h0
    have R := fun w1 => zrows_c s hs w1
    have F := fun ad c w1 h => rowsown_c s t ad c hs ht w1 h
    have hyes := fun q => zhit_yes (s := s) (t := t) (q := q)
    have hno := fun q => zhit_no (s := s) (t := t) (q := q)
    have hzl := zhit_len s t
    have HY := Lib.hid hyes
    have HN := Lib.hid hno
    have h00 : zhit s t 0 = [] := rfl
    have H0 := Lib.hid h00
    rw [lcpL_mk] at R F
    rw [lcpL_mk] at F
    clear hz hyes hno h00
    generalize zhit s t = zh at *
    go_enter Tryz.func142, Tryz.ntmps142
    go_wp2_with fail
    refine (R _).mono ?_
    rintro e w1 ⟨g1, rfl, own1, hk1⟩
    have o1 : Own .i64 3 w.heap.size w1 (.slice (some ⟨g1, 0, none⟩) s.size s.size) (mk s.size (lcpI s s)) := by unfold Own; rw [mk_length]; exact own1
    obtain ⟨A1, c1, e1, -, -, rd1⟩ := o1.rd
    simp only [Value.slice.injEq] at e1
    obtain ⟨rfl, -, -⟩ := e1
    clear R o1
    go_wp2_with fail
    refine (F _ _ _ rd1).mono ?_
    rintro e w2 ⟨g2, rfl, own2, hk2⟩
    have o2 : Own .i64 3 w1.heap.size w2 (.slice (some ⟨g2, 0, none⟩) t.size t.size) (mk t.size (lcpI s t)) := by unfold Own; rw [mk_length]; exact own2
    obtain ⟨A2, c2, e2, -, -, rd2⟩ := o2.rd
    simp only [Value.slice.injEq] at e2
    obtain ⟨rfl, -, -⟩ := e2
    have hk := kept_trans hk1 hk2
    clear F o2 own1 own2 rd1
    go_wp2_with fail
    go_loopw [5, 16] (fun v iv wr => ∃ i : Nat, i ≤ t.size ∧ iv = .int .i64 i ∧ Own .i64 3 w2.heap.size wr v (zh i) ∧ Kept w2 wr) (fun _ iv _ => t.size - (intOf iv).toNat)
    case atStart => exact ⟨0, Nat.zero_le _, rfl, by rw [H0.out]; exact Own.nil _ _ _ _, kept_refl _⟩
    case round =>
      obtain ⟨i, hi, rfl, hown, hkw⟩ := hrel
      have hks := kept_trans hk hkw
      have hbase := hkw.size
      by_cases hlt : i < t.size
      · obtain ⟨ad, e3, cr⟩ := (rd2.kept hkw).at_ (j := i) (by rw [mk_length]; exact hlt)
        cases e3
        have ea : (⟨g2, 0, none⟩ : Addr).add i = ⟨g2, i, none⟩ := by unfold Addr.add; split <;> simp_all
        rw [nth_mk hlt, ea] at cr
        clear ea
        have HY := HY.out i
        have HN := HN.out i
        have hzl := hzl i
        have hci : lcpI s t i = ((lcp s t i : Nat) : Int) := rfl
        rw [hci] at cr
        clear hci
        generalize lcp s t i = y at *
        by_cases hy : y = s.size
        · have hm := HY hy
          have HM := Lib.hid hm
          have d1 : ((y : Int) == (s.size : Int)) = true := by rw [beq_iff_eq]; omega
          have d1n : (y == s.size) = true := by rw [beq_iff_eq]; exact hy
          have d1m : decide (y = s.size) = true := decide_eq_true hy
          clear HY HN hm hy
          go_wp2_with (at_builtin; refine app_one Tryz.underlying24 hif1 hy0 hy1 hy2 (by decide) rfl rfl rfl rfl rfl hown ?c1 ?c2 hkw (Nat.le_refl _) ?_)
          case c1 => omega
          case c2 => omega
          intro v' w5 o5 g5 hkw5
          rw [← HM.out] at o5
          clear hown HM
          go_wp2_with fail
          exact ⟨⟨i + 1, by omega, by go_num, o5, hkw5⟩, by simp [intOf]; omega⟩
        · have hm := HN hy
          have HM := Lib.hid hm
          have d1 : ((y : Int) == (s.size : Int)) = false := by rw [beq_eq_false_iff_ne]; omega
          have d1n : (y == s.size) = false := by rw [beq_eq_false_iff_ne]; exact hy
          have d1m : decide (y = s.size) = false := decide_eq_false hy
          clear HY HN hm hy
          go_wp2_with fail
          exact ⟨⟨i + 1, by omega, by go_num, by rw [HM.out]; exact hown, hkw⟩, by simp [intOf]; omega⟩
      · obtain rfl : i = t.size := by omega
        go_wp2_with fail
        go_ret
        exact ⟨_, rfl, hown.less hk.size, hks⟩
end Go.Proofs.YtdejablhpljdfaaGreat
namespace Go.Proofs.YtdejablhpljdfaaGreat
open Go.RowKit BG
attribute [local go_sem ↓] Go.wp_at_zero Go.wp_at_succ run_max_at run_min_at
set_option linter.unusedVariables false
theorem lettersS_size {xs : List Int} {n : Nat} (h : lettersOk xs n = true) : (lettersS xs n).size = n := by
  unfold lettersS
  rw [if_pos h]
  show (lettersL xs n).toArray.size = n
  rw [List.size_toArray, lettersL_len]
set_option maxRecDepth 100000 in
set_option maxHeartbeats 4000000 in
theorem zleaf_c (A : Option Addr) (cap n : Nat) (xs : List Int) (s : ByteArray) (hu : U64 xs) (hl : xs.length = 4 * n) (hn : n ≤ 900000) (hn1 : 1 ≤ n) (hs : s.size ≤ 900000) (hrv : rightv xs n 0 = true) (hlo : lettersOk xs n = true) (w : World) (hr : Rd .u64 w A xs) :
    Calls Tryz.prog 83 #[leafV A n cap 0, .string s] w fun e w' => ∃ v, e = .returned (.tuple #[v, .bool true]) ∧ Own .i64 3 w.heap.size w' v (zedF (lettersS xs n) s) ∧ Kept w w' := by
  have L := fun w1 h => letters_c A cap n xs 0 hu hl (by omega) hn1 w1 h
  have R := fun w1 h => right_c A cap n xs 0 hl w1 h
  have Z := fun w1 => zfind_c (lettersS xs n) s (by rw [lettersS_size hlo]; omega) hs w1
  have hb := blk_new w (.cells #[.slice A n cap, .int .i64 0] 61)
  have ka := kept_alloc (kept_refl w) (.cells #[.slice A n cap, .int .i64 0] 61)
  have c0 : (w.alloc (.cells #[.slice A n cap, .int .i64 0] 61)).cell? ⟨w.heap.size, 0, none⟩ = some (.slice A n cap) := blk_cell hb 0
  have c1 : (w.alloc (.cells #[.slice A n cap, .int .i64 0] 61)).cell? ⟨w.heap.size, 1, none⟩ = some (.int .i64 0) := blk_cell hb 1
  rw [hlo] at L
  rw [hrv] at R
  clear hlo hrv
  generalize lettersS xs n = p at *
  go_enter Tryz.func83, Tryz.ntmps83
  go_wp2_with fail
  refine (L _ (hr.kept ka)).mono ?_
  rintro e w1 ⟨rfl, hk1⟩
  replace hb := blk_kept hk1 hb
  replace ka := kept_trans ka hk1
  replace c0 : w1.cell? ⟨w.heap.size, 0, none⟩ = some (.slice A n cap) := blk_cell hb 0
  replace c1 : w1.cell? ⟨w.heap.size, 1, none⟩ = some (.int .i64 0) := blk_cell hb 1
  clear L hk1
  go_wp2_with fail
  refine (R _ (hr.kept ka)).mono ?_
  rintro e w2 ⟨rfl, hk2⟩
  replace hb := blk_kept hk2 hb
  replace ka := kept_trans ka hk2
  replace c0 : w2.cell? ⟨w.heap.size, 0, none⟩ = some (.slice A n cap) := blk_cell hb 0
  replace c1 : w2.cell? ⟨w.heap.size, 1, none⟩ = some (.int .i64 0) := blk_cell hb 1
  clear R hk2
  go_wp2_with fail
  refine (Z _).mono ?_
  rintro e w3 ⟨v, rfl, own, hk3⟩
  replace ka' := ka.size
  have HO := Lib.hid (⟨own.less ka', kept_trans ka hk3⟩ : _ ∧ _)
  obtain ⟨A3, c3, rfl, -, -, -⟩ := own.rd
  clear Z c0 c1 own
  generalize (zedF p s).length = zl at *
  go_wp2_with fail
  exact bodyPost_ret (v := .tuple #[.slice A3 zl c3, .bool true]) (by simp [results, Tryz.results83, go_sem]) rfl ⟨_, rfl, HO.out.1, HO.out.2⟩
end Go.Proofs.YtdejablhpljdfaaGreat
namespace Go.Proofs.YtdejablhpljdfaaGreat
open Go.RowKit BG
attribute [local go_sem ↓] Go.wp_at_zero Go.wp_at_succ run_max_at run_min_at
set_option linter.unusedVariables false
set_option maxRecDepth 100000 in
set_option maxHeartbeats 1000000 in
theorem ways_1 (w : World) : Calls Tryz.prog 47 #[.int .i64 1] w (Ret (.agg #[.func (.func 78) #[] #[], .func (.func 80) #[] #[]]) w) := by
  have ka := kept_alloc (kept_refl w) (.cells #[.nilFunc, .nilFunc] 114)
  have kb := kept_alloc (kept_refl w) (.cells #[.func (.func 78) #[] #[], .func (.func 80) #[] #[]] 114)
  go_enter Tryz.func47, Tryz.ntmps47
  go_wp2_with fail
  exact bodyPost_ret (v := .agg #[.func (.func 78) #[] #[], .func (.func 80) #[] #[]]) (by simp [results, Tryz.results47, go_sem]) rfl ⟨rfl, by first | exact kb | exact ka⟩
set_option maxRecDepth 100000 in
set_option maxHeartbeats 1000000 in
theorem ways_2 (w : World) : Calls Tryz.prog 47 #[.int .i64 2] w (Ret (.agg #[.func (.func 82) #[] #[], .nilFunc]) w) := by
  have ka := kept_alloc (kept_refl w) (.cells #[.nilFunc, .nilFunc] 114)
  have kb := kept_alloc (kept_refl w) (.cells #[.func (.func 82) #[] #[], .nilFunc] 114)
  go_enter Tryz.func47, Tryz.ntmps47
  go_wp2_with fail
  exact bodyPost_ret (v := .agg #[.func (.func 82) #[] #[], .nilFunc]) (by simp [results, Tryz.results47, go_sem]) rfl ⟨rfl, by first | exact kb | exact ka⟩
set_option maxRecDepth 100000 in
set_option maxHeartbeats 1000000 in
theorem ways_3 (w : World) : Calls Tryz.prog 47 #[.int .i64 3] w (Ret (.agg #[.func (.func 84) #[] #[], .nilFunc]) w) := by
  have ka := kept_alloc (kept_refl w) (.cells #[.nilFunc, .nilFunc] 114)
  have kb := kept_alloc (kept_refl w) (.cells #[.func (.func 84) #[] #[], .nilFunc] 114)
  go_enter Tryz.func47, Tryz.ntmps47
  go_wp2_with fail
  exact bodyPost_ret (v := .agg #[.func (.func 84) #[] #[], .nilFunc]) (by simp [results, Tryz.results47, go_sem]) rfl ⟨rfl, by first | exact kb | exact ka⟩
set_option maxRecDepth 100000 in
set_option maxHeartbeats 1000000 in
theorem ways_4 (w : World) : Calls Tryz.prog 47 #[.int .i64 4] w (Ret (.agg #[.func (.func 85) #[] #[], .func (.func 86) #[] #[]]) w) := by
  have ka := kept_alloc (kept_refl w) (.cells #[.nilFunc, .nilFunc] 114)
  have kb := kept_alloc (kept_refl w) (.cells #[.func (.func 85) #[] #[], .func (.func 86) #[] #[]] 114)
  go_enter Tryz.func47, Tryz.ntmps47
  go_wp2_with fail
  exact bodyPost_ret (v := .agg #[.func (.func 85) #[] #[], .func (.func 86) #[] #[]]) (by simp [results, Tryz.results47, go_sem]) rfl ⟨rfl, by first | exact kb | exact ka⟩
set_option maxRecDepth 100000 in
set_option maxHeartbeats 1000000 in
theorem ways_5 (w : World) : Calls Tryz.prog 47 #[.int .i64 5] w (Ret (.agg #[.func (.func 87) #[] #[], .func (.func 89) #[] #[]]) w) := by
  have ka := kept_alloc (kept_refl w) (.cells #[.nilFunc, .nilFunc] 114)
  have kb := kept_alloc (kept_refl w) (.cells #[.func (.func 87) #[] #[], .func (.func 89) #[] #[]] 114)
  go_enter Tryz.func47, Tryz.ntmps47
  go_wp2_with fail
  exact bodyPost_ret (v := .agg #[.func (.func 87) #[] #[], .func (.func 89) #[] #[]]) (by simp [results, Tryz.results47, go_sem]) rfl ⟨rfl, by first | exact kb | exact ka⟩
def matE (way : Nat) (xs : List Int) (n : Nat) (K N size : Int) : Int := if admitsv way xs n K = true then (if sizedv way xs n K N size = true then 0 else 50) else 170
set_option maxRecDepth 100000 in
set_option maxHeartbeats 2000000 in
theorem mcheck_c (way : Nat) (hw : way ≤ 5) (A : Option Addr) (cap n : Nat) (xs : List Int) (K : Int) (s : ByteArray) (size : Int) (hu : U64 xs) (hl : xs.length = 4 * n) (hn : n ≤ 1000000) (hs : s.size ≤ 1000000) (w : World) (hr : Rd .u64 w A xs) : Calls Tryz.prog 48 #[.int .i64 (way : Int), leafV A n cap K, .string s, .int .i64 size] w (Ret (.int .i64 (matE way xs n K s.size size)) w) := by
  have AD := fun w1 h => admits_c way hw A cap n xs K hu hl hn w1 h
  have SZ := fun w1 h => psized_c way hw A cap n xs K hu hl hn s.size size w1 h
  have hb := blk_new w (.cells #[.slice A n cap, .int .i64 K] 61)
  have ka := kept_alloc (kept_refl w) (.cells #[.slice A n cap, .int .i64 K] 61)
  have c0 : (w.alloc (.cells #[.slice A n cap, .int .i64 K] 61)).cell? ⟨w.heap.size, 0, none⟩ = some (.slice A n cap) := blk_cell hb 0
  have c1 : (w.alloc (.cells #[.slice A n cap, .int .i64 K] 61)).cell? ⟨w.heap.size, 1, none⟩ = some (.int .i64 K) := blk_cell hb 1
  have hE : matE way xs n K s.size size = if admitsv way xs n K = true then (if sizedv way xs n K s.size size = true then 0 else 50) else 170 := rfl
  have HE := Lib.hid hE
  clear hE
  generalize matE way xs n K s.size size = er at *
  generalize admitsv way xs n K = a at *
  generalize sizedv way xs n K s.size size = z at *
  generalize (way : Int) = wi at *
  go_enter Tryz.func48, Tryz.ntmps48
  go_wp2_with fail
  refine (AD _ (hr.kept ka)).mono ?_
  rintro e w1 ⟨rfl, hk1⟩
  replace hb := blk_kept hk1 hb
  replace ka := kept_trans ka hk1
  replace c0 : w1.cell? ⟨w.heap.size, 0, none⟩ = some (.slice A n cap) := blk_cell hb 0
  replace c1 : w1.cell? ⟨w.heap.size, 1, none⟩ = some (.int .i64 K) := blk_cell hb 1
  clear AD hk1
  cases a
  · go_wp2_with fail
    go_ret
    exact ⟨by rw [HE.out]; rfl, ka⟩
  · go_wp2_with fail
    refine (SZ _ (hr.kept ka)).mono ?_
    rintro e w2 ⟨rfl, hk2⟩
    replace ka := kept_trans ka hk2
    clear SZ c0 c1 hk2
    cases z
    · go_wp2_with fail
      go_ret
      exact ⟨by rw [HE.out]; rfl, ka⟩
    · go_wp2_with fail
      go_ret
      exact ⟨by rw [HE.out]; rfl, ka⟩
set_option maxRecDepth 100000 in
set_option maxHeartbeats 2000000 in
theorem ways1_c (A : Option Addr) (cap n : Nat) (xs : List Int) (K : Int) (s : ByteArray) (size : Int) (hu : U64 xs) (hl : xs.length = 4 * n) (hn : n ≤ 1000000) (hsz : s.size ≤ 900000) (w : World) (hr : Rd .u64 w A xs) : Calls Tryz.prog 78 #[leafV A n cap K, .string s, .int .i64 size] w (AnsJ (hitsv (countsv xs n K s) K) 0 0 w) := by
  have C := fun w1 h => nfind_c A cap n xs K s hu hl hn hsz w1 h
  have hb := blk_new w (.cells #[.slice A n cap, .int .i64 K] 61)
  have ka := kept_alloc (kept_refl w) (.cells #[.slice A n cap, .int .i64 K] 61)
  have c0 : (w.alloc (.cells #[.slice A n cap, .int .i64 K] 61)).cell? ⟨w.heap.size, 0, none⟩ = some (.slice A n cap) := blk_cell hb 0
  have c1 : (w.alloc (.cells #[.slice A n cap, .int .i64 K] 61)).cell? ⟨w.heap.size, 1, none⟩ = some (.int .i64 K) := blk_cell hb 1
  unfold AnsJ
  generalize hitsv (countsv xs n K s) K = zl at *
  go_enter Tryz.func78, Tryz.ntmps78
  go_wp2_with fail
  refine (C _ (hr.kept ka)).mono ?_
  rintro e w1 ⟨v, rfl, own, hk1⟩
  obtain ⟨A3, c3, rfl, -, -, rd⟩ := own.rdF
  clear C c0 c1 own
  have HR := Lib.hid rd
  clear rd
  generalize hzz : zl.length = zz at *
  have HZ := Lib.hid hzz
  clear hzz
  go_wp2_with fail
  exact bodyPost_ret (v := .tuple #[.slice A3 zz c3, .int .i64 0, .int .i64 0]) (by simp [results, Tryz.results78, go_sem]) rfl ⟨A3, c3, by rw [HZ.out], HR.out.less ka.size, kept_trans ka hk1⟩
set_option maxRecDepth 100000 in
set_option maxHeartbeats 2000000 in
theorem ways3_c (A : Option Addr) (cap n : Nat) (xs : List Int) (s : ByteArray) (size : Int) (hu : U64 xs) (hl : xs.length = 4 * n) (hn : n ≤ 900000) (hsz : s.size ≤ 900000) (hn1 : 1 ≤ n) (hrv : rightv xs n 0 = true) (hlo : lettersOk xs n = true) (w : World) (hr : Rd .u64 w A xs) : Calls Tryz.prog 82 #[leafV A n cap 0, .string s, .int .i64 size] w (AnsJ (zedF (lettersS xs n) s) 0 0 w) := by
  have C := fun w1 h => zleaf_c A cap n xs s hu hl hn hn1 hsz hrv hlo w1 h
  have hb := blk_new w (.cells #[.slice A n cap, .int .i64 0] 61)
  have ka := kept_alloc (kept_refl w) (.cells #[.slice A n cap, .int .i64 0] 61)
  have c0 : (w.alloc (.cells #[.slice A n cap, .int .i64 0] 61)).cell? ⟨w.heap.size, 0, none⟩ = some (.slice A n cap) := blk_cell hb 0
  have c1 : (w.alloc (.cells #[.slice A n cap, .int .i64 0] 61)).cell? ⟨w.heap.size, 1, none⟩ = some (.int .i64 0) := blk_cell hb 1
  unfold AnsJ
  generalize zedF (lettersS xs n) s = zl at *
  go_enter Tryz.func82, Tryz.ntmps82
  go_wp2_with fail
  refine (C _ (hr.kept ka)).mono ?_
  rintro e w1 ⟨v, rfl, own, hk1⟩
  obtain ⟨A3, c3, rfl, -, -, rd⟩ := own.rdF
  clear C c0 c1 own
  have HR := Lib.hid rd
  clear rd
  generalize hzz : zl.length = zz at *
  have HZ := Lib.hid hzz
  clear hzz
  go_wp2_with fail
  exact bodyPost_ret (v := .tuple #[.slice A3 zz c3, .int .i64 0, .int .i64 0]) (by simp [results, Tryz.results82, go_sem]) rfl ⟨A3, c3, by rw [HZ.out], HR.out.less ka.size, kept_trans ka hk1⟩
set_option maxRecDepth 100000 in
set_option maxHeartbeats 2000000 in
theorem ways4_c (A : Option Addr) (cap n : Nat) (xs : List Int) (K : Int) (s : ByteArray) (size : Int) (hu : U64 xs) (hl : xs.length = 4 * n) (hn : n ≤ 1000000) (hsz : s.size ≤ 900000) (w : World) (hr : Rd .u64 w A xs) : Calls Tryz.prog 87 #[leafV A n cap K, .string s, .int .i64 size] w (AnsJ (splF xs n K s size) (splN xs n K s.size size) (splEr xs n K s.size size) w) := by
  have C := fun w1 h => splfind_c A cap n xs K s size hu hl hn hsz w1 h
  have hb := blk_new w (.cells #[.slice A n cap, .int .i64 K] 61)
  have ka := kept_alloc (kept_refl w) (.cells #[.slice A n cap, .int .i64 K] 61)
  have c0 : (w.alloc (.cells #[.slice A n cap, .int .i64 K] 61)).cell? ⟨w.heap.size, 0, none⟩ = some (.slice A n cap) := blk_cell hb 0
  have c1 : (w.alloc (.cells #[.slice A n cap, .int .i64 K] 61)).cell? ⟨w.heap.size, 1, none⟩ = some (.int .i64 K) := blk_cell hb 1
  unfold AnsJ at *
  generalize splF xs n K s size = zl at *
  generalize splN xs n K s.size size = zn at *
  generalize splEr xs n K s.size size = ze at *
  go_enter Tryz.func87, Tryz.ntmps87
  go_wp2_with fail
  refine (C _ (hr.kept ka)).mono ?_
  rintro e w1 ⟨A3, c3, rfl, rd, hk1⟩
  clear C c0 c1
  have HR := Lib.hid rd
  clear rd
  generalize hzz : zl.length = zz at *
  have HZ := Lib.hid hzz
  clear hzz
  go_wp2_with fail
  exact bodyPost_ret (v := .tuple #[.slice A3 zz c3, .int .i64 zn, .int .i64 ze]) (by simp [results, Tryz.results87, go_sem]) rfl ⟨A3, c3, by rw [HZ.out], HR.out.less ka.size, kept_trans ka hk1⟩
end Go.Proofs.YtdejablhpljdfaaGreat
namespace Go.Proofs.YtdejablhpljdfaaGreat
open Go.RowKit BG
attribute [local go_sem ↓] Go.wp_at_zero Go.wp_at_succ run_max_at run_min_at
set_option linter.unusedVariables false
def waL (way : Nat) (xs : List Int) (n : Nat) (K : Int) (s : ByteArray) (size : Int) : List Int := if way = 1 then hitsv (countsv xs n K s) K else if way = 2 then zedF (lettersS xs n) s else if way = 3 then findL xs n K s size else if way = 4 then symF xs n K s size else splF xs n K s size
def waN (way : Nat) (xs : List Int) (n : Nat) (K : Int) (N : Nat) (size : Int) : Int := if way = 1 then 0 else if way = 2 then 0 else if way = 3 then findN xs n K N size else if way = 4 then symN xs n K N size else splN xs n K N size
def waE (way : Nat) (xs : List Int) (n : Nat) (K : Int) (N : Nat) (size : Int) : Int := if way = 1 then 0 else if way = 2 then 0 else if way = 3 then findE xs n K N size else if way = 4 then symE xs n K N size else splEr xs n K N size
def mFL (way : Nat) (xs : List Int) (n : Nat) (K : Int) (s : ByteArray) (size : Int) : List Int := if matE way xs n K s.size size = 0 then waL way xs n K s size else []
def mFN (way : Nat) (xs : List Int) (n : Nat) (K : Int) (N : Nat) (size : Int) : Int := if matE way xs n K N size = 0 then waN way xs n K N size else 0
def mFE (way : Nat) (xs : List Int) (n : Nat) (K : Int) (N : Nat) (size : Int) : Int := if matE way xs n K N size = 0 then waE way xs n K N size else matE way xs n K N size
theorem matE_zero {way : Nat} {xs : List Int} {n : Nat} {K N size : Int} (h : matE way xs n K N size = 0) : admitsv way xs n K = true ∧ sizedv way xs n K N size = true := by
  unfold matE at h
  cases ha : admitsv way xs n K <;> rw [ha] at h
  · simp at h
  · cases hz : sizedv way xs n K N size <;> rw [hz] at h
    · simp at h
    · exact ⟨rfl, rfl⟩
theorem admits_right {way : Nat} {xs : List Int} {n : Nat} {K : Int} (h : admitsv way xs n K = true) : rightv xs n K = true ∧ 1 ≤ n ∧ n ≤ 64 ∧ 0 ≤ K ∧ K ≤ 64 := by
  unfold admitsv at h
  rw [Bool.and_eq_true] at h
  have hr := h.1
  refine ⟨hr, ?_⟩
  unfold rightv at hr
  simp only [Bool.and_eq_true, decide_eq_true_eq] at hr
  omega
theorem admits_zed {xs : List Int} {n : Nat} {K : Int} (h : admitsv 2 xs n K = true) : lettersOk xs n = true ∧ K = 0 := by
  unfold admitsv at h
  simp only [Bool.and_eq_true] at h
  have h2 := h.2
  simp at h2
  exact h2
theorem way_field0 (a b : Value) (w : World) : (Instr.field 114 (.agg #[a, b]) 0).run Tryz.prog w = .ok a w := by kernel_rfl
set_option maxRecDepth 100000 in
set_option maxHeartbeats 4000000 in
theorem mfind_1 (A : Option Addr) (cap n : Nat) (xs : List Int) (K : Int) (s : ByteArray) (size : Int) (hu : U64 xs) (hl : xs.length = 4 * n) (hn : n ≤ 1000000) (hsz : s.size ≤ 900000) (w : World) (hr : Rd .u64 w A xs) : Calls Tryz.prog 26 #[.int .i64 1, leafV A n cap K, .string s, .int .i64 size] w (AnsJ (mFL 1 xs n K s size) (mFN 1 xs n K s.size size) (mFE 1 xs n K s.size size) w) := by
  by_cases hE : matE 1 xs n K s.size size = 0
  · have e1 : mFL 1 xs n K s size = waL 1 xs n K s size := if_pos hE
    have e2 : mFN 1 xs n K s.size size = waN 1 xs n K s.size size := if_pos hE
    have e3 : mFE 1 xs n K s.size size = waE 1 xs n K s.size size := if_pos hE
    rw [e1, e2, e3]
    have C : ∀ w1, Rd .u64 w1 A xs → Calls Tryz.prog 78 #[leafV A n cap K, .string s, .int .i64 size] w1 (AnsJ (waL 1 xs n K s size) (waN 1 xs n K s.size size) (waE 1 xs n K s.size size) w1) := fun w1 h => by
      exact ways1_c A cap n xs K s size hu hl hn hsz w1 h
    have WY := fun w1 => ways_1 w1
    have hfd := way_field0
    clear e1 e2 e3
    unfold AnsJ at *
    have CK := fun w1 h => mcheck_c 1 (by decide) A cap n xs K s size hu hl hn (by omega) w1 h
    have hb := blk_new w (.cells #[.slice A n cap, .int .i64 K] 61)
    have ka := kept_alloc (kept_refl w) (.cells #[.slice A n cap, .int .i64 K] 61)
    have c0 : (w.alloc (.cells #[.slice A n cap, .int .i64 K] 61)).cell? ⟨w.heap.size, 0, none⟩ = some (.slice A n cap) := blk_cell hb 0
    have c1 : (w.alloc (.cells #[.slice A n cap, .int .i64 K] 61)).cell? ⟨w.heap.size, 1, none⟩ = some (.int .i64 K) := blk_cell hb 1
    rw [hE] at CK
    clear hE
    generalize waL 1 xs n K s size = zl at *
    generalize waN 1 xs n K s.size size = zn at *
    generalize waE 1 xs n K s.size size = ze at *
    go_enter Tryz.func26, Tryz.ntmps26
    go_wp2_with fail
    refine (CK _ (hr.kept ka)).mono ?_
    rintro e w1 ⟨rfl, hk1⟩
    replace hb := blk_kept hk1 hb
    replace ka := kept_trans ka hk1
    replace c0 : w1.cell? ⟨w.heap.size, 0, none⟩ = some (.slice A n cap) := blk_cell hb 0
    replace c1 : w1.cell? ⟨w.heap.size, 1, none⟩ = some (.int .i64 K) := blk_cell hb 1
    have hrr := hr.kept ka
    have kr := kept_refl w1
    clear CK hk1
    go_wp2_with fail
    go_region_held3 (fun w' => w'.cell? ⟨w.heap.size, 0, none⟩ = some (.slice A n cap) ∧ w'.cell? ⟨w.heap.size, 1, none⟩ = some (.int .i64 K)) (first | exact ⟨by assumption, by assumption⟩ | exact ⟨kept_cell hk3 c0, kept_cell hk3 c1⟩ | exact ⟨kept_cell hk2 c0, kept_cell hk2 c1⟩) (first | (go_at_call 47; refine (WY _).mono ?_; rintro e w2 ⟨rfl, hk2⟩; replace hk2 := kept_trans (kept_drew kr) hk2) | (go_at_call 78; refine (C _ (hrr.kept hk2)).mono ?_; rintro e w3 ⟨A3, c3, rfl, rd3, hk3⟩; replace hk3 := kept_trans hk2 hk3))
    have HR := Lib.hid (⟨rd3.less (Nat.le_trans ka.size hk2.size), kept_trans ka hk3⟩ : _ ∧ _)
    clear rd3 hk3 hk2 C WY
    generalize hzz : zl.length = zz at *
    have HZ := Lib.hid hzz
    clear hzz
    go_wp2_with fail
    exact bodyPost_ret (v := .tuple #[.slice A3 zz c3, .int .i64 zn, .int .i64 ze]) (by simp [results, Tryz.results26, go_sem]) rfl ⟨A3, c3, by rw [HZ.out], HR.out.1, HR.out.2⟩
  · have e1 : mFL 1 xs n K s size = [] := if_neg hE
    have e2 : mFN 1 xs n K s.size size = 0 := if_neg hE
    have e3 : mFE 1 xs n K s.size size = matE 1 xs n K s.size size := if_neg hE
    rw [e1, e2, e3]
    clear e1 e2 e3
    unfold AnsJ
    have CK := fun w1 h => mcheck_c 1 (by decide) A cap n xs K s size hu hl hn (by omega) w1 h
    have hb := blk_new w (.cells #[.slice A n cap, .int .i64 K] 61)
    have ka := kept_alloc (kept_refl w) (.cells #[.slice A n cap, .int .i64 K] 61)
    have c0 : (w.alloc (.cells #[.slice A n cap, .int .i64 K] 61)).cell? ⟨w.heap.size, 0, none⟩ = some (.slice A n cap) := blk_cell hb 0
    have c1 : (w.alloc (.cells #[.slice A n cap, .int .i64 K] 61)).cell? ⟨w.heap.size, 1, none⟩ = some (.int .i64 K) := blk_cell hb 1
    generalize matE 1 xs n K s.size size = er at *
    have hne : (er != 0) = true := by simpa using hE
    go_enter Tryz.func26, Tryz.ntmps26
    go_wp2_with fail
    refine (CK _ (hr.kept ka)).mono ?_
    rintro e w1 ⟨rfl, hk1⟩
    replace ka := kept_trans ka hk1
    clear CK c0 c1 hb hk1
    go_wp2_with fail
    exact bodyPost_ret (v := .tuple #[.slice none 0 0, .int .i64 0, .int .i64 er]) (by simp [results, Tryz.results26, go_sem]) rfl ⟨none, 0, rfl, RdF.nil _ _ _, ka⟩
set_option maxRecDepth 100000 in
set_option maxHeartbeats 4000000 in
theorem mfind_2 (A : Option Addr) (cap n : Nat) (xs : List Int) (K : Int) (s : ByteArray) (size : Int) (hu : U64 xs) (hl : xs.length = 4 * n) (hn : n ≤ 1000000) (hsz : s.size ≤ 900000) (w : World) (hr : Rd .u64 w A xs) : Calls Tryz.prog 26 #[.int .i64 2, leafV A n cap K, .string s, .int .i64 size] w (AnsJ (mFL 2 xs n K s size) (mFN 2 xs n K s.size size) (mFE 2 xs n K s.size size) w) := by
  by_cases hE : matE 2 xs n K s.size size = 0
  · have e1 : mFL 2 xs n K s size = waL 2 xs n K s size := if_pos hE
    have e2 : mFN 2 xs n K s.size size = waN 2 xs n K s.size size := if_pos hE
    have e3 : mFE 2 xs n K s.size size = waE 2 xs n K s.size size := if_pos hE
    rw [e1, e2, e3]
    have C : ∀ w1, Rd .u64 w1 A xs → Calls Tryz.prog 82 #[leafV A n cap K, .string s, .int .i64 size] w1 (AnsJ (waL 2 xs n K s size) (waN 2 xs n K s.size size) (waE 2 xs n K s.size size) w1) := fun w1 h => by
      obtain ⟨ha, _⟩ := matE_zero hE
      obtain ⟨hrv, hn1, hn64, _, _⟩ := admits_right ha
      obtain ⟨hlo, rfl⟩ := admits_zed ha
      exact ways3_c A cap n xs s size hu hl (by omega) hsz hn1 hrv hlo w1 h
    have WY := fun w1 => ways_2 w1
    have hfd := way_field0
    clear e1 e2 e3
    unfold AnsJ at *
    have CK := fun w1 h => mcheck_c 2 (by decide) A cap n xs K s size hu hl hn (by omega) w1 h
    have hb := blk_new w (.cells #[.slice A n cap, .int .i64 K] 61)
    have ka := kept_alloc (kept_refl w) (.cells #[.slice A n cap, .int .i64 K] 61)
    have c0 : (w.alloc (.cells #[.slice A n cap, .int .i64 K] 61)).cell? ⟨w.heap.size, 0, none⟩ = some (.slice A n cap) := blk_cell hb 0
    have c1 : (w.alloc (.cells #[.slice A n cap, .int .i64 K] 61)).cell? ⟨w.heap.size, 1, none⟩ = some (.int .i64 K) := blk_cell hb 1
    rw [hE] at CK
    clear hE
    generalize waL 2 xs n K s size = zl at *
    generalize waN 2 xs n K s.size size = zn at *
    generalize waE 2 xs n K s.size size = ze at *
    go_enter Tryz.func26, Tryz.ntmps26
    go_wp2_with fail
    refine (CK _ (hr.kept ka)).mono ?_
    rintro e w1 ⟨rfl, hk1⟩
    replace hb := blk_kept hk1 hb
    replace ka := kept_trans ka hk1
    replace c0 : w1.cell? ⟨w.heap.size, 0, none⟩ = some (.slice A n cap) := blk_cell hb 0
    replace c1 : w1.cell? ⟨w.heap.size, 1, none⟩ = some (.int .i64 K) := blk_cell hb 1
    have hrr := hr.kept ka
    have kr := kept_refl w1
    clear CK hk1
    go_wp2_with fail
    go_region_held3 (fun w' => w'.cell? ⟨w.heap.size, 0, none⟩ = some (.slice A n cap) ∧ w'.cell? ⟨w.heap.size, 1, none⟩ = some (.int .i64 K)) (first | exact ⟨by assumption, by assumption⟩ | exact ⟨kept_cell hk3 c0, kept_cell hk3 c1⟩ | exact ⟨kept_cell hk2 c0, kept_cell hk2 c1⟩) (first | (go_at_call 47; refine (WY _).mono ?_; rintro e w2 ⟨rfl, hk2⟩; replace hk2 := kept_trans (kept_drew kr) hk2) | (go_at_call 82; refine (C _ (hrr.kept hk2)).mono ?_; rintro e w3 ⟨A3, c3, rfl, rd3, hk3⟩; replace hk3 := kept_trans hk2 hk3))
    have HR := Lib.hid (⟨rd3.less (Nat.le_trans ka.size hk2.size), kept_trans ka hk3⟩ : _ ∧ _)
    clear rd3 hk3 hk2 C WY
    generalize hzz : zl.length = zz at *
    have HZ := Lib.hid hzz
    clear hzz
    go_wp2_with fail
    exact bodyPost_ret (v := .tuple #[.slice A3 zz c3, .int .i64 zn, .int .i64 ze]) (by simp [results, Tryz.results26, go_sem]) rfl ⟨A3, c3, by rw [HZ.out], HR.out.1, HR.out.2⟩
  · have e1 : mFL 2 xs n K s size = [] := if_neg hE
    have e2 : mFN 2 xs n K s.size size = 0 := if_neg hE
    have e3 : mFE 2 xs n K s.size size = matE 2 xs n K s.size size := if_neg hE
    rw [e1, e2, e3]
    clear e1 e2 e3
    unfold AnsJ
    have CK := fun w1 h => mcheck_c 2 (by decide) A cap n xs K s size hu hl hn (by omega) w1 h
    have hb := blk_new w (.cells #[.slice A n cap, .int .i64 K] 61)
    have ka := kept_alloc (kept_refl w) (.cells #[.slice A n cap, .int .i64 K] 61)
    have c0 : (w.alloc (.cells #[.slice A n cap, .int .i64 K] 61)).cell? ⟨w.heap.size, 0, none⟩ = some (.slice A n cap) := blk_cell hb 0
    have c1 : (w.alloc (.cells #[.slice A n cap, .int .i64 K] 61)).cell? ⟨w.heap.size, 1, none⟩ = some (.int .i64 K) := blk_cell hb 1
    generalize matE 2 xs n K s.size size = er at *
    have hne : (er != 0) = true := by simpa using hE
    go_enter Tryz.func26, Tryz.ntmps26
    go_wp2_with fail
    refine (CK _ (hr.kept ka)).mono ?_
    rintro e w1 ⟨rfl, hk1⟩
    replace ka := kept_trans ka hk1
    clear CK c0 c1 hb hk1
    go_wp2_with fail
    exact bodyPost_ret (v := .tuple #[.slice none 0 0, .int .i64 0, .int .i64 er]) (by simp [results, Tryz.results26, go_sem]) rfl ⟨none, 0, rfl, RdF.nil _ _ _, ka⟩
set_option maxRecDepth 100000 in
set_option maxHeartbeats 4000000 in
theorem mfind_3 (A : Option Addr) (cap n : Nat) (xs : List Int) (K : Int) (s : ByteArray) (size : Int) (hu : U64 xs) (hl : xs.length = 4 * n) (hn : n ≤ 1000000) (hsz : s.size ≤ 900000) (w : World) (hr : Rd .u64 w A xs) : Calls Tryz.prog 26 #[.int .i64 3, leafV A n cap K, .string s, .int .i64 size] w (AnsJ (mFL 3 xs n K s size) (mFN 3 xs n K s.size size) (mFE 3 xs n K s.size size) w) := by
  by_cases hE : matE 3 xs n K s.size size = 0
  · have e1 : mFL 3 xs n K s size = waL 3 xs n K s size := if_pos hE
    have e2 : mFN 3 xs n K s.size size = waN 3 xs n K s.size size := if_pos hE
    have e3 : mFE 3 xs n K s.size size = waE 3 xs n K s.size size := if_pos hE
    rw [e1, e2, e3]
    have C : ∀ w1, Rd .u64 w1 A xs → Calls Tryz.prog 84 #[leafV A n cap K, .string s, .int .i64 size] w1 (AnsJ (waL 3 xs n K s size) (waN 3 xs n K s.size size) (waE 3 xs n K s.size size) w1) := fun w1 h => by
      exact wfind_c A cap n xs K s size hu hl hn hsz w1 h
    have WY := fun w1 => ways_3 w1
    have hfd := way_field0
    clear e1 e2 e3
    unfold AnsJ at *
    have CK := fun w1 h => mcheck_c 3 (by decide) A cap n xs K s size hu hl hn (by omega) w1 h
    have hb := blk_new w (.cells #[.slice A n cap, .int .i64 K] 61)
    have ka := kept_alloc (kept_refl w) (.cells #[.slice A n cap, .int .i64 K] 61)
    have c0 : (w.alloc (.cells #[.slice A n cap, .int .i64 K] 61)).cell? ⟨w.heap.size, 0, none⟩ = some (.slice A n cap) := blk_cell hb 0
    have c1 : (w.alloc (.cells #[.slice A n cap, .int .i64 K] 61)).cell? ⟨w.heap.size, 1, none⟩ = some (.int .i64 K) := blk_cell hb 1
    rw [hE] at CK
    clear hE
    generalize waL 3 xs n K s size = zl at *
    generalize waN 3 xs n K s.size size = zn at *
    generalize waE 3 xs n K s.size size = ze at *
    go_enter Tryz.func26, Tryz.ntmps26
    go_wp2_with fail
    refine (CK _ (hr.kept ka)).mono ?_
    rintro e w1 ⟨rfl, hk1⟩
    replace hb := blk_kept hk1 hb
    replace ka := kept_trans ka hk1
    replace c0 : w1.cell? ⟨w.heap.size, 0, none⟩ = some (.slice A n cap) := blk_cell hb 0
    replace c1 : w1.cell? ⟨w.heap.size, 1, none⟩ = some (.int .i64 K) := blk_cell hb 1
    have hrr := hr.kept ka
    have kr := kept_refl w1
    clear CK hk1
    go_wp2_with fail
    go_region_held3 (fun w' => w'.cell? ⟨w.heap.size, 0, none⟩ = some (.slice A n cap) ∧ w'.cell? ⟨w.heap.size, 1, none⟩ = some (.int .i64 K)) (first | exact ⟨by assumption, by assumption⟩ | exact ⟨kept_cell hk3 c0, kept_cell hk3 c1⟩ | exact ⟨kept_cell hk2 c0, kept_cell hk2 c1⟩) (first | (go_at_call 47; refine (WY _).mono ?_; rintro e w2 ⟨rfl, hk2⟩; replace hk2 := kept_trans (kept_drew kr) hk2) | (go_at_call 84; refine (C _ (hrr.kept hk2)).mono ?_; rintro e w3 ⟨A3, c3, rfl, rd3, hk3⟩; replace hk3 := kept_trans hk2 hk3))
    have HR := Lib.hid (⟨rd3.less (Nat.le_trans ka.size hk2.size), kept_trans ka hk3⟩ : _ ∧ _)
    clear rd3 hk3 hk2 C WY
    generalize hzz : zl.length = zz at *
    have HZ := Lib.hid hzz
    clear hzz
    go_wp2_with fail
    exact bodyPost_ret (v := .tuple #[.slice A3 zz c3, .int .i64 zn, .int .i64 ze]) (by simp [results, Tryz.results26, go_sem]) rfl ⟨A3, c3, by rw [HZ.out], HR.out.1, HR.out.2⟩
  · have e1 : mFL 3 xs n K s size = [] := if_neg hE
    have e2 : mFN 3 xs n K s.size size = 0 := if_neg hE
    have e3 : mFE 3 xs n K s.size size = matE 3 xs n K s.size size := if_neg hE
    rw [e1, e2, e3]
    clear e1 e2 e3
    unfold AnsJ
    have CK := fun w1 h => mcheck_c 3 (by decide) A cap n xs K s size hu hl hn (by omega) w1 h
    have hb := blk_new w (.cells #[.slice A n cap, .int .i64 K] 61)
    have ka := kept_alloc (kept_refl w) (.cells #[.slice A n cap, .int .i64 K] 61)
    have c0 : (w.alloc (.cells #[.slice A n cap, .int .i64 K] 61)).cell? ⟨w.heap.size, 0, none⟩ = some (.slice A n cap) := blk_cell hb 0
    have c1 : (w.alloc (.cells #[.slice A n cap, .int .i64 K] 61)).cell? ⟨w.heap.size, 1, none⟩ = some (.int .i64 K) := blk_cell hb 1
    generalize matE 3 xs n K s.size size = er at *
    have hne : (er != 0) = true := by simpa using hE
    go_enter Tryz.func26, Tryz.ntmps26
    go_wp2_with fail
    refine (CK _ (hr.kept ka)).mono ?_
    rintro e w1 ⟨rfl, hk1⟩
    replace ka := kept_trans ka hk1
    clear CK c0 c1 hb hk1
    go_wp2_with fail
    exact bodyPost_ret (v := .tuple #[.slice none 0 0, .int .i64 0, .int .i64 er]) (by simp [results, Tryz.results26, go_sem]) rfl ⟨none, 0, rfl, RdF.nil _ _ _, ka⟩
set_option maxRecDepth 100000 in
set_option maxHeartbeats 4000000 in
theorem mfind_4 (A : Option Addr) (cap n : Nat) (xs : List Int) (K : Int) (s : ByteArray) (size : Int) (hu : U64 xs) (hl : xs.length = 4 * n) (hn : n ≤ 1000000) (hsz : s.size ≤ 900000) (w : World) (hr : Rd .u64 w A xs) : Calls Tryz.prog 26 #[.int .i64 4, leafV A n cap K, .string s, .int .i64 size] w (AnsJ (mFL 4 xs n K s size) (mFN 4 xs n K s.size size) (mFE 4 xs n K s.size size) w) := by
  by_cases hE : matE 4 xs n K s.size size = 0
  · have e1 : mFL 4 xs n K s size = waL 4 xs n K s size := if_pos hE
    have e2 : mFN 4 xs n K s.size size = waN 4 xs n K s.size size := if_pos hE
    have e3 : mFE 4 xs n K s.size size = waE 4 xs n K s.size size := if_pos hE
    rw [e1, e2, e3]
    have C : ∀ w1, Rd .u64 w1 A xs → Calls Tryz.prog 85 #[leafV A n cap K, .string s, .int .i64 size] w1 (AnsJ (waL 4 xs n K s size) (waN 4 xs n K s.size size) (waE 4 xs n K s.size size) w1) := fun w1 h => by
      exact symfind_c A cap n xs K s size hu hl hn hsz w1 h
    have WY := fun w1 => ways_4 w1
    have hfd := way_field0
    clear e1 e2 e3
    unfold AnsJ at *
    have CK := fun w1 h => mcheck_c 4 (by decide) A cap n xs K s size hu hl hn (by omega) w1 h
    have hb := blk_new w (.cells #[.slice A n cap, .int .i64 K] 61)
    have ka := kept_alloc (kept_refl w) (.cells #[.slice A n cap, .int .i64 K] 61)
    have c0 : (w.alloc (.cells #[.slice A n cap, .int .i64 K] 61)).cell? ⟨w.heap.size, 0, none⟩ = some (.slice A n cap) := blk_cell hb 0
    have c1 : (w.alloc (.cells #[.slice A n cap, .int .i64 K] 61)).cell? ⟨w.heap.size, 1, none⟩ = some (.int .i64 K) := blk_cell hb 1
    rw [hE] at CK
    clear hE
    generalize waL 4 xs n K s size = zl at *
    generalize waN 4 xs n K s.size size = zn at *
    generalize waE 4 xs n K s.size size = ze at *
    go_enter Tryz.func26, Tryz.ntmps26
    go_wp2_with fail
    refine (CK _ (hr.kept ka)).mono ?_
    rintro e w1 ⟨rfl, hk1⟩
    replace hb := blk_kept hk1 hb
    replace ka := kept_trans ka hk1
    replace c0 : w1.cell? ⟨w.heap.size, 0, none⟩ = some (.slice A n cap) := blk_cell hb 0
    replace c1 : w1.cell? ⟨w.heap.size, 1, none⟩ = some (.int .i64 K) := blk_cell hb 1
    have hrr := hr.kept ka
    have kr := kept_refl w1
    clear CK hk1
    go_wp2_with fail
    go_region_held3 (fun w' => w'.cell? ⟨w.heap.size, 0, none⟩ = some (.slice A n cap) ∧ w'.cell? ⟨w.heap.size, 1, none⟩ = some (.int .i64 K)) (first | exact ⟨by assumption, by assumption⟩ | exact ⟨kept_cell hk3 c0, kept_cell hk3 c1⟩ | exact ⟨kept_cell hk2 c0, kept_cell hk2 c1⟩) (first | (go_at_call 47; refine (WY _).mono ?_; rintro e w2 ⟨rfl, hk2⟩; replace hk2 := kept_trans (kept_drew kr) hk2) | (go_at_call 85; refine (C _ (hrr.kept hk2)).mono ?_; rintro e w3 ⟨A3, c3, rfl, rd3, hk3⟩; replace hk3 := kept_trans hk2 hk3))
    have HR := Lib.hid (⟨rd3.less (Nat.le_trans ka.size hk2.size), kept_trans ka hk3⟩ : _ ∧ _)
    clear rd3 hk3 hk2 C WY
    generalize hzz : zl.length = zz at *
    have HZ := Lib.hid hzz
    clear hzz
    go_wp2_with fail
    exact bodyPost_ret (v := .tuple #[.slice A3 zz c3, .int .i64 zn, .int .i64 ze]) (by simp [results, Tryz.results26, go_sem]) rfl ⟨A3, c3, by rw [HZ.out], HR.out.1, HR.out.2⟩
  · have e1 : mFL 4 xs n K s size = [] := if_neg hE
    have e2 : mFN 4 xs n K s.size size = 0 := if_neg hE
    have e3 : mFE 4 xs n K s.size size = matE 4 xs n K s.size size := if_neg hE
    rw [e1, e2, e3]
    clear e1 e2 e3
    unfold AnsJ
    have CK := fun w1 h => mcheck_c 4 (by decide) A cap n xs K s size hu hl hn (by omega) w1 h
    have hb := blk_new w (.cells #[.slice A n cap, .int .i64 K] 61)
    have ka := kept_alloc (kept_refl w) (.cells #[.slice A n cap, .int .i64 K] 61)
    have c0 : (w.alloc (.cells #[.slice A n cap, .int .i64 K] 61)).cell? ⟨w.heap.size, 0, none⟩ = some (.slice A n cap) := blk_cell hb 0
    have c1 : (w.alloc (.cells #[.slice A n cap, .int .i64 K] 61)).cell? ⟨w.heap.size, 1, none⟩ = some (.int .i64 K) := blk_cell hb 1
    generalize matE 4 xs n K s.size size = er at *
    have hne : (er != 0) = true := by simpa using hE
    go_enter Tryz.func26, Tryz.ntmps26
    go_wp2_with fail
    refine (CK _ (hr.kept ka)).mono ?_
    rintro e w1 ⟨rfl, hk1⟩
    replace ka := kept_trans ka hk1
    clear CK c0 c1 hb hk1
    go_wp2_with fail
    exact bodyPost_ret (v := .tuple #[.slice none 0 0, .int .i64 0, .int .i64 er]) (by simp [results, Tryz.results26, go_sem]) rfl ⟨none, 0, rfl, RdF.nil _ _ _, ka⟩
set_option maxRecDepth 100000 in
set_option maxHeartbeats 4000000 in
theorem mfind_5 (A : Option Addr) (cap n : Nat) (xs : List Int) (K : Int) (s : ByteArray) (size : Int) (hu : U64 xs) (hl : xs.length = 4 * n) (hn : n ≤ 1000000) (hsz : s.size ≤ 900000) (w : World) (hr : Rd .u64 w A xs) : Calls Tryz.prog 26 #[.int .i64 5, leafV A n cap K, .string s, .int .i64 size] w (AnsJ (mFL 5 xs n K s size) (mFN 5 xs n K s.size size) (mFE 5 xs n K s.size size) w) := by
  by_cases hE : matE 5 xs n K s.size size = 0
  · have e1 : mFL 5 xs n K s size = waL 5 xs n K s size := if_pos hE
    have e2 : mFN 5 xs n K s.size size = waN 5 xs n K s.size size := if_pos hE
    have e3 : mFE 5 xs n K s.size size = waE 5 xs n K s.size size := if_pos hE
    rw [e1, e2, e3]
    have C : ∀ w1, Rd .u64 w1 A xs → Calls Tryz.prog 87 #[leafV A n cap K, .string s, .int .i64 size] w1 (AnsJ (waL 5 xs n K s size) (waN 5 xs n K s.size size) (waE 5 xs n K s.size size) w1) := fun w1 h => by
      exact ways4_c A cap n xs K s size hu hl hn hsz w1 h
    have WY := fun w1 => ways_5 w1
    have hfd := way_field0
    clear e1 e2 e3
    unfold AnsJ at *
    have CK := fun w1 h => mcheck_c 5 (by decide) A cap n xs K s size hu hl hn (by omega) w1 h
    have hb := blk_new w (.cells #[.slice A n cap, .int .i64 K] 61)
    have ka := kept_alloc (kept_refl w) (.cells #[.slice A n cap, .int .i64 K] 61)
    have c0 : (w.alloc (.cells #[.slice A n cap, .int .i64 K] 61)).cell? ⟨w.heap.size, 0, none⟩ = some (.slice A n cap) := blk_cell hb 0
    have c1 : (w.alloc (.cells #[.slice A n cap, .int .i64 K] 61)).cell? ⟨w.heap.size, 1, none⟩ = some (.int .i64 K) := blk_cell hb 1
    rw [hE] at CK
    clear hE
    generalize waL 5 xs n K s size = zl at *
    generalize waN 5 xs n K s.size size = zn at *
    generalize waE 5 xs n K s.size size = ze at *
    go_enter Tryz.func26, Tryz.ntmps26
    go_wp2_with fail
    refine (CK _ (hr.kept ka)).mono ?_
    rintro e w1 ⟨rfl, hk1⟩
    replace hb := blk_kept hk1 hb
    replace ka := kept_trans ka hk1
    replace c0 : w1.cell? ⟨w.heap.size, 0, none⟩ = some (.slice A n cap) := blk_cell hb 0
    replace c1 : w1.cell? ⟨w.heap.size, 1, none⟩ = some (.int .i64 K) := blk_cell hb 1
    have hrr := hr.kept ka
    have kr := kept_refl w1
    clear CK hk1
    go_wp2_with fail
    go_region_held3 (fun w' => w'.cell? ⟨w.heap.size, 0, none⟩ = some (.slice A n cap) ∧ w'.cell? ⟨w.heap.size, 1, none⟩ = some (.int .i64 K)) (first | exact ⟨by assumption, by assumption⟩ | exact ⟨kept_cell hk3 c0, kept_cell hk3 c1⟩ | exact ⟨kept_cell hk2 c0, kept_cell hk2 c1⟩) (first | (go_at_call 47; refine (WY _).mono ?_; rintro e w2 ⟨rfl, hk2⟩; replace hk2 := kept_trans (kept_drew kr) hk2) | (go_at_call 87; refine (C _ (hrr.kept hk2)).mono ?_; rintro e w3 ⟨A3, c3, rfl, rd3, hk3⟩; replace hk3 := kept_trans hk2 hk3))
    have HR := Lib.hid (⟨rd3.less (Nat.le_trans ka.size hk2.size), kept_trans ka hk3⟩ : _ ∧ _)
    clear rd3 hk3 hk2 C WY
    generalize hzz : zl.length = zz at *
    have HZ := Lib.hid hzz
    clear hzz
    go_wp2_with fail
    exact bodyPost_ret (v := .tuple #[.slice A3 zz c3, .int .i64 zn, .int .i64 ze]) (by simp [results, Tryz.results26, go_sem]) rfl ⟨A3, c3, by rw [HZ.out], HR.out.1, HR.out.2⟩
  · have e1 : mFL 5 xs n K s size = [] := if_neg hE
    have e2 : mFN 5 xs n K s.size size = 0 := if_neg hE
    have e3 : mFE 5 xs n K s.size size = matE 5 xs n K s.size size := if_neg hE
    rw [e1, e2, e3]
    clear e1 e2 e3
    unfold AnsJ
    have CK := fun w1 h => mcheck_c 5 (by decide) A cap n xs K s size hu hl hn (by omega) w1 h
    have hb := blk_new w (.cells #[.slice A n cap, .int .i64 K] 61)
    have ka := kept_alloc (kept_refl w) (.cells #[.slice A n cap, .int .i64 K] 61)
    have c0 : (w.alloc (.cells #[.slice A n cap, .int .i64 K] 61)).cell? ⟨w.heap.size, 0, none⟩ = some (.slice A n cap) := blk_cell hb 0
    have c1 : (w.alloc (.cells #[.slice A n cap, .int .i64 K] 61)).cell? ⟨w.heap.size, 1, none⟩ = some (.int .i64 K) := blk_cell hb 1
    generalize matE 5 xs n K s.size size = er at *
    have hne : (er != 0) = true := by simpa using hE
    go_enter Tryz.func26, Tryz.ntmps26
    go_wp2_with fail
    refine (CK _ (hr.kept ka)).mono ?_
    rintro e w1 ⟨rfl, hk1⟩
    replace ka := kept_trans ka hk1
    clear CK c0 c1 hb hk1
    go_wp2_with fail
    exact bodyPost_ret (v := .tuple #[.slice none 0 0, .int .i64 0, .int .i64 er]) (by simp [results, Tryz.results26, go_sem]) rfl ⟨none, 0, rfl, RdF.nil _ _ _, ka⟩
end Go.Proofs.YtdejablhpljdfaaGreat
