/-
  Layer 10 (wild): a class's value; a leaf's weight; rows that are made of others.
-/
import Derived.Test.YtobailigphmopaaWNaiveJ
import Derived.Laws.AppendOwnNone
import Derived.Laws.IdiomStrings
namespace Go.Proofs.Ytobailigphmopaa
open Go.RowKit BG
attribute [local go_sem ↓] Go.wp_at_zero Go.wp_at_succ
set_option linter.unusedVariables false

def valv (x : Cl) : Nat := if (sgl x).2 = true then (sgl x).1 + 1 else 0
theorem valv_le (x : Cl) : valv x ≤ 256 := by
  have := sgl_lt x
  unfold valv; split <;> omega
def cube (v : Nat) : Int := (v : Int) * (v : Int) * (v : Int)
theorem cube_bd {v : Nat} (h : v ≤ 256) : 0 ≤ cube v ∧ cube v ≤ 16777216 := by
  have h1 : v * v ≤ 256 * 256 := Nat.mul_le_mul h h
  have h2 : v * v * v ≤ 256 * 256 * 256 := Nat.mul_le_mul h1 h
  have e : cube v = ((v * v * v : Nat) : Int) := by unfold cube; rw [Int.natCast_mul, Int.natCast_mul]
  rw [e]
  omega
def wtT (xs : List Int) (j : Nat) : Int := sumTo j fun q => cube (valv (cls xs q))
def weightv (xs : List Int) (n : Nat) : Int := wtT xs n
theorem wtT_succ (xs : List Int) (j : Nat) : wtT xs (j + 1) = wtT xs j + cube (valv (cls xs j)) := rfl
theorem wtT_bd (xs : List Int) : ∀ j, 0 ≤ wtT xs j ∧ wtT xs j ≤ 16777216 * (j : Int) := by
  intro j
  induction j with
  | zero => exact ⟨Int.le_refl 0, Int.le_refl 0⟩
  | succ j ih =>
    have := cube_bd (valv_le (cls xs j))
    rw [wtT_succ]
    omega
set_option maxHeartbeats 2000000 in
theorem value_c (x : Cl) (hx : x.ok) (w : World) : Calls Try.prog 11 #[x.v] w (Ret (.int .u64 (valv x : Nat)) w) := by
  have S := single_c x hx
  have hs := sgl_lt x
  unfold valv
  have hb := cl_cells (blk_new w x.cells)
  have ka := kept_alloc (kept_refl w) x.cells
  generalize sgl x = sg at *
  obtain ⟨s1, s2⟩ := sg
  obtain ⟨x0, x1, x2, x3⟩ := x
  dsimp only [Cl.v, Cl.cells] at hb ka S hs ⊢
  obtain ⟨c0, c1, c2, c3⟩ := hb
  cases s2
  · rw [if_neg (by decide)]
    go_enter Try.func11, Try.ntmps11
    go_wp2_with fail
    refine (S _).mono ?_
    rintro e w1 ⟨rfl, hk1⟩
    clear S c0 c1 c2 c3
    go_wp2_with fail
    go_ret
    exact ⟨rfl, kept_trans ka hk1⟩
  · rw [if_pos rfl]
    go_enter Try.func11, Try.ntmps11
    go_wp2_with fail
    refine (S _).mono ?_
    rintro e w1 ⟨rfl, hk1⟩
    clear S c0 c1 c2 c3
    go_wp2_with fail
    go_ret
    exact ⟨by simp, kept_trans ka hk1⟩
set_option maxHeartbeats 2000000 in
theorem rvalue_c (x : Cl) (hx : x.ok) (w : World) : Calls Try.prog 12 #[x.v] w (Ret (.int .u64 (valv x : Nat)) w) := by
  have S := rsingle_c x hx
  have hs := sgl_lt x
  unfold valv
  have hb := cl_cells (blk_new w x.cells)
  have ka := kept_alloc (kept_refl w) x.cells
  generalize sgl x = sg at *
  obtain ⟨s1, s2⟩ := sg
  obtain ⟨x0, x1, x2, x3⟩ := x
  dsimp only [Cl.v, Cl.cells] at hb ka S hs ⊢
  obtain ⟨c0, c1, c2, c3⟩ := hb
  cases s2
  · rw [if_neg (by decide)]
    go_enter Try.func12, Try.ntmps12
    go_wp2_with fail
    refine (S _).mono ?_
    rintro e w1 ⟨rfl, hk1⟩
    clear S c0 c1 c2 c3
    go_wp2_with fail
    go_ret
    exact ⟨rfl, kept_trans ka hk1⟩
  · rw [if_pos rfl]
    go_enter Try.func12, Try.ntmps12
    go_wp2_with fail
    refine (S _).mono ?_
    rintro e w1 ⟨rfl, hk1⟩
    clear S c0 c1 c2 c3
    go_wp2_with fail
    go_ret
    exact ⟨by simp, kept_trans ka hk1⟩
set_option maxRecDepth 100000 in
set_option maxHeartbeats 4000000 in
theorem weight_c (A : Option Addr) (cap n : Nat) (xs : List Int) (K : Int) (hu : U64 xs) (hl : xs.length = 4 * n) (hn : n ≤ 1000000) (w : World) (hr : Rd .u64 w A xs) : Calls Try.prog 13 #[leafV A n cap K] w (Ret (.int .u64 (weightv xs n)) w) := by
  have hm := hr.1
  have hb := blk_new w (.cells #[.slice A n cap, .int .i64 K] 27)
  have ka := kept_alloc (kept_refl w) (.cells #[.slice A n cap, .int .i64 K] 27)
  have V := fun j w1 => value_c (cls xs j) (cls_ok hu j) w1
  have hs := wtT_succ xs
  have hbd := wtT_bd xs
  have hv := fun j => valv_le (cls xs j)
  have h0 : wtT xs 0 = 0 := rfl
  have HS := Lib.hid hs
  have HB := Lib.hid hbd
  have H0 := Lib.hid h0
  unfold weightv
  clear hs hbd h0
  generalize wtT xs = wt at *
  go_enter Try.func13, Try.ntmps13
  go_wp2_with fail
  go_loopw [3, 10] (fun v iv wr => ∃ j : Nat, j ≤ n ∧ iv = .int .i64 j ∧ v = .int .u64 (wt j) ∧ wr.heap[w.heap.size]? = some (.cells #[.slice A n cap, .int .i64 K] 27 (0, 0)) ∧ Kept w wr) (fun _ iv _ => n - (intOf iv).toNat)
  case atStart => exact ⟨0, Nat.zero_le _, rfl, by rw [H0.out], hb, ka⟩
  case round =>
    clear hb ka
    obtain ⟨j, hj, rfl, rfl, hb, hkw⟩ := hrel
    have c0 : wr.cell? ⟨w.heap.size, 0, none⟩ = some (.slice A n cap) := blk_cell hb 0
    by_cases hlt : j < n
    · have V := V j
      have hv := hv j
      have hs := HS.out j
      have hbj := HB.out j
      have hc := cube_bd hv
      obtain ⟨ad, rfl, d0, d1, d2, d3⟩ := (hr.kept hkw).cl hl hlt
      have HS2 := Lib.hid hs
      have hcu : (valv (cls xs j) : Int) * (valv (cls xs j) : Int) * (valv (cls xs j) : Int) = cube (valv (cls xs j)) := rfl
      have hsq : 0 ≤ (valv (cls xs j) : Int) * (valv (cls xs j) : Int) ∧ (valv (cls xs j) : Int) * (valv (cls xs j) : Int) ≤ 65536 := by
        have h1 : valv (cls xs j) * valv (cls xs j) ≤ 256 * 256 := Nat.mul_le_mul hv hv
        have e : (valv (cls xs j) : Int) * (valv (cls xs j) : Int) = ((valv (cls xs j) * valv (cls xs j) : Nat) : Int) := (Int.natCast_mul _ _).symm
        rw [e]; omega
      clear HS HB H0 hs
      generalize cube (valv (cls xs j)) = cu at *
      generalize valv (cls xs j) = vl at *
      generalize cls xs j = x at *
      generalize wt j = t at *
      have wr1 : IntKind.u64.wrap ((vl : Int) * (vl : Int)) = (vl : Int) * (vl : Int) := by rw [IntKind.wrap_u64]; omega
      have wr2 : IntKind.u64.wrap ((vl : Int) * (vl : Int) * (vl : Int)) = cu := by rw [hcu, IntKind.wrap_u64]; omega
      have wr3 : IntKind.u64.wrap (t + cu) = t + cu := by rw [IntKind.wrap_u64]; omega
      obtain ⟨x0, x1, x2, x3⟩ := x
      dsimp only [Cl.v] at d0 d1 d2 d3 V
      have hkb := kept_alloc (kept_refl wr) (.cells #[.int .u64 x0, .int .u64 x1, .int .u64 x2, .int .u64 x3] 24)
      have HW1 := Lib.hid wr1
      have HW2 := Lib.hid wr2
      have HW3 := Lib.hid wr3
      clear hcu hsq wr1 wr2 wr3
      go_wp2_with fail
      refine (V _).mono ?_
      rintro e w1 ⟨rfl, hk1⟩
      replace hb := blk_kept (kept_trans hkb hk1) hb
      replace hkw := kept_trans hkw (kept_trans hkb hk1)
      clear V d0 d1 d2 d3 c0 hkb
      go_wp2_with fail
      exact ⟨⟨j + 1, by omega, by go_num, by rw [HW1.out, HW2.out, HW3.out, HS2.out], hb, hkw⟩, by simp [intOf]; omega⟩
    · obtain rfl : j = n := by omega
      clear V HS HB H0 hv
      go_wp2_with fail
      go_ret
      exact ⟨rfl, hkw⟩
set_option maxRecDepth 100000 in
set_option maxHeartbeats 4000000 in
theorem rweight_c (A : Option Addr) (cap n : Nat) (xs : List Int) (K : Int) (hu : U64 xs) (hl : xs.length = 4 * n) (hn : n ≤ 1000000) (w : World) (hr : Rd .u64 w A xs) : Calls Try.prog 14 #[leafV A n cap K] w (Ret (.int .u64 (weightv xs n)) w) := by
  have hm := hr.1
  have hb := blk_new w (.cells #[.slice A n cap, .int .i64 K] 27)
  have ka := kept_alloc (kept_refl w) (.cells #[.slice A n cap, .int .i64 K] 27)
  have V := fun j w1 => rvalue_c (cls xs j) (cls_ok hu j) w1
  have hs := wtT_succ xs
  have hbd := wtT_bd xs
  have hv := fun j => valv_le (cls xs j)
  have h0 : wtT xs 0 = 0 := rfl
  have HS := Lib.hid hs
  have HB := Lib.hid hbd
  have H0 := Lib.hid h0
  unfold weightv
  clear hs hbd h0
  generalize wtT xs = wt at *
  go_enter Try.func14, Try.ntmps14
  go_wp2_with fail
  go_loopw [3, 4] (fun v iv wr => ∃ j : Nat, j ≤ n ∧ iv = .int .i64 j ∧ v = .int .u64 (wt j) ∧ wr.heap[w.heap.size]? = some (.cells #[.slice A n cap, .int .i64 K] 27 (0, 0)) ∧ Kept w wr) (fun _ iv _ => n - (intOf iv).toNat)
  case atStart => exact ⟨0, Nat.zero_le _, rfl, by rw [H0.out], hb, ka⟩
  case round =>
    clear hb ka
    obtain ⟨j, hj, rfl, rfl, hb, hkw⟩ := hrel
    have c0 : wr.cell? ⟨w.heap.size, 0, none⟩ = some (.slice A n cap) := blk_cell hb 0
    by_cases hlt : j < n
    · have V := V j
      have hv := hv j
      have hs := HS.out j
      have hbj := HB.out j
      have hc := cube_bd hv
      obtain ⟨ad, rfl, d0, d1, d2, d3⟩ := (hr.kept hkw).cl hl hlt
      have HS2 := Lib.hid hs
      have hcu : (valv (cls xs j) : Int) * (valv (cls xs j) : Int) * (valv (cls xs j) : Int) = cube (valv (cls xs j)) := rfl
      have hsq : 0 ≤ (valv (cls xs j) : Int) * (valv (cls xs j) : Int) ∧ (valv (cls xs j) : Int) * (valv (cls xs j) : Int) ≤ 65536 := by
        have h1 : valv (cls xs j) * valv (cls xs j) ≤ 256 * 256 := Nat.mul_le_mul hv hv
        have e : (valv (cls xs j) : Int) * (valv (cls xs j) : Int) = ((valv (cls xs j) * valv (cls xs j) : Nat) : Int) := (Int.natCast_mul _ _).symm
        rw [e]; omega
      clear HS HB H0 hs
      generalize cube (valv (cls xs j)) = cu at *
      generalize valv (cls xs j) = vl at *
      generalize cls xs j = x at *
      generalize wt j = t at *
      have wr1 : IntKind.u64.wrap ((vl : Int) * (vl : Int)) = (vl : Int) * (vl : Int) := by rw [IntKind.wrap_u64]; omega
      have wr2 : IntKind.u64.wrap ((vl : Int) * (vl : Int) * (vl : Int)) = cu := by rw [hcu, IntKind.wrap_u64]; omega
      have wr3 : IntKind.u64.wrap (t + cu) = t + cu := by rw [IntKind.wrap_u64]; omega
      obtain ⟨x0, x1, x2, x3⟩ := x
      dsimp only [Cl.v] at d0 d1 d2 d3 V
      have hkb := kept_alloc (kept_refl wr) (.cells #[.int .u64 x0, .int .u64 x1, .int .u64 x2, .int .u64 x3] 24)
      have HW1 := Lib.hid wr1
      have HW2 := Lib.hid wr2
      have HW3 := Lib.hid wr3
      clear hcu hsq wr1 wr2 wr3
      go_wp2_with fail
      refine (V _).mono ?_
      rintro e w1 ⟨rfl, hk1⟩
      replace hb := blk_kept hk1 hb
      replace hkw := kept_trans hkw hk1
      clear V d0 d1 d2 d3 c0 hkb
      go_wp2_with fail
      exact ⟨⟨j + 1, by omega, by go_num, by rw [HW1.out, HW2.out, HW3.out, HS2.out], hb, hkw⟩, by simp [intOf]; omega⟩
    · obtain rfl : j = n := by omega
      clear V HS HB H0 hv
      go_wp2_with fail
      go_ret
      exact ⟨rfl, hkw⟩
end Go.Proofs.Ytobailigphmopaa
/-
  Layer 10 (wild): rows that are made of others.
-/
namespace Go.Proofs.Ytobailigphmopaa
open Go.RowKit BG
attribute [local go_sem ↓] Go.wp_at_zero Go.wp_at_succ
set_option linter.unusedVariables false

theorem power_c2 (w : World) : Calls Try.prog 30 #[.int .i64 2] w fun e w' => e = .returned (.func (.func 31) #[] #[.pointer (some ⟨w.heap.size, 0, none⟩)]) ∧ w'.cell? ⟨w.heap.size, 0, none⟩ = some (.int .i64 2) ∧ Kept w w' := by
  go_enter Try.func30, Try.ntmps30
  go_wp2_with fail
  go_ret
  exact ⟨rfl, blk_cell (blk_new w (.cells #[.int .i64 2] 3)) 0, kept_alloc (kept_refl w) _⟩
theorem square_c (v : Int) (h0 : 0 ≤ v) (h1 : v ≤ 65536) (g : Nat) (w : World) (hc : w.cell? ⟨g, 0, none⟩ = some (.int .i64 2)) : Calls Try.prog 31 #[.int .u64 v, .pointer (some ⟨g, 0, none⟩)] w (Ret (.int .u64 (v * v)) w) := by
  have hs : 0 ≤ v * v ∧ v * v ≤ 4294967296 := by
    refine ⟨Int.mul_nonneg h0 h0, ?_⟩
    have := Int.mul_le_mul h1 h1 h0 (by decide)
    exact Int.le_trans this (by decide)
  have w1 : IntKind.u64.wrap (v * v) = v * v := by rw [IntKind.wrap_u64]; omega
  have w2 : IntKind.u64.wrap v = v := by rw [IntKind.wrap_u64]; omega
  have W1 := Lib.hid w1
  have W2 := Lib.hid w2
  clear w1 w2 hs
  go_enter Try.func31, Try.ntmps31
  go_wp2_with fail
  refine wp_loop_rounds 3 ?_
  rw [rounds_succ]
  go_wp2_with fail
  rw [rounds_succ]
  go_wp2_with fail
  rw [rounds_succ]
  go_wp2_with fail
  go_ret
  exact ⟨by first | rfl | (show Ending.returned (Value.int .u64 _) = _; rw [W1.out]) | (show Ending.returned (Value.int .u64 _) = _; rw [W2.out, W1.out]), kept_refl _⟩
theorem next_c (b : Int) (h0 : 0 ≤ b) (h1 : b ≤ 255) (w : World) : Calls Try.prog 34 #[.int .u8 b] w (Ret (.int .u64 (b + 1)) w) := by
  go_enter Try.func34, Try.ntmps34
  go_wp2_with fail
  go_ret
  exact ⟨rfl, kept_refl _⟩
set_option maxRecDepth 100000 in
set_option maxHeartbeats 4000000 in
theorem madeC_c (A : Option Addr) (cap n : Nat) (xs : List Int) (hu : U64 xs) (hl : xs.length = 4 * n) (hn : n ≤ 1000000) (w : World) (hr : Rd .u64 w A xs) : Calls Try.prog 32 #[.slice A n cap, .func (.func 11) #[] #[]] w fun e w' => ∃ v, e = .returned v ∧ (Own .u64 22 w.heap.size w' v (mk n fun j => (valv (cls xs j) : Int)) ∧ Kept w w') := by
  obtain ⟨i1, hif1, hy0, hy1, hy2⟩ := info_parts info_u64
  have hm := hr.1
  have hsu := fun j => mk_succ j fun j => (valv (cls xs j) : Int)
  have HSU := Lib.hid hsu
  clear hsu
  go_enter Try.func32, Try.ntmps32
  go_wp2_with fail
  go_loopw [5, 10] (fun v iv wr => ∃ j : Nat, j ≤ n ∧ iv = .int .i64 j ∧ Own .u64 22 w.heap.size wr v (mk j fun j => (valv (cls xs j) : Int)) ∧ Kept w wr) (fun _ iv _ => n - (intOf iv).toNat)
  case atStart => exact ⟨0, Nat.zero_le _, rfl, Own.nil _ _ _ _, kept_refl _⟩
  case round =>
    obtain ⟨j, hj, rfl, hown, hkw⟩ := hrel
    by_cases hlt : j < n
    · obtain ⟨ad, rfl, d0, d1, d2, d3⟩ := (hr.kept hkw).cl hl hlt
      have V := value_c (cls xs j) (cls_ok hu j)
      have hvl := valv_le (cls xs j)
      have hown2 : World.ownsRow _ _ _ _ _ _ _ := hown
      rw [mk_length] at hown2
      have HS := Lib.hid (HSU.out j)
      clear HSU
      generalize valv (cls xs j) = vl at *
      generalize cls xs j = x at *
      obtain ⟨x0, x1, x2, x3⟩ := x
      dsimp only [Cl.v] at d0 d1 d2 d3 V
      have hkb := kept_alloc (kept_refl wr) (.cells #[.int .u64 x0, .int .u64 x1, .int .u64 x2, .int .u64 x3] 24)
      go_wp2_with fail
      refine (V _).mono ?_
      rintro e w1 ⟨rfl, hk1⟩
      replace hk1 := kept_trans hkb hk1
      replace hown2 := rowKept hown2 hk1
      replace hkw := kept_trans hkw hk1
      have hbase := hkw.size
      clear hown hk1 V d0 d1 d2 d3 hkb
      go_wp2_with (at_builtin; refine wpList_append_own _ rfl _ _ 33 rfl w.heap.size 22 i1 (.int .u64 0) 1 8 Try.underlying33 hif1 hy0 hy1 hy2 rfl (by decide) _ _ _ rfl (hown2.alloc _) ⟨w1.heap.size, 0, none⟩ 1 1 [.int .u64 (vl : Int)] rfl rfl ?c1 ?c2 ?c3 ?c4 ?c5 ?_)
      case c1 =>
        intro q u hq
        match q, hq with
        | 0, hq => simp at hq; subst hq; simp [Addr.add]
      case c2 => intro u hu; simp at hu; subst hu; rfl
      case c3 => unfold maxLen; omega
      case c4 => omega
      case c5 => simp; omega
      · intro v' w5 hown' hgrow _
        have o5 : Own .u64 22 w.heap.size w5 v' (mk (j + 1) fun j => (valv (cls xs j) : Int)) := by
          unfold Own
          rw [mk_length, HS.out, List.map_append]
          exact hown'
        have K5 := kept_grown (kept_alloc hkw _) (hown2.alloc _) (Nat.le_refl _) hgrow
        clear hown' hgrow hown2
        go_wp2_with fail
        exact ⟨⟨j + 1, by omega, by go_num, o5, K5⟩, by simp [intOf]; omega⟩
    · obtain rfl : j = n := by omega
      clear HSU
      go_wp2_with fail
      go_ret
      exact ⟨_, rfl, hown, hkw⟩
set_option maxRecDepth 100000 in
set_option maxHeartbeats 4000000 in
theorem madeB_c (A : Option Addr) (cap n : Nat) (ys : List Int) (hu : ∀ j, 0 ≤ nth ys j ∧ nth ys j ≤ 255) (hl : ys.length = n) (hn : n ≤ 1000000) (w : World) (hr : Rd .u8 w A ys) : Calls Try.prog 33 #[.slice A n cap, .func (.func 34) #[] #[]] w fun e w' => ∃ v, e = .returned v ∧ (Own .u64 22 w.heap.size w' v (mk n fun j => nth ys j + 1) ∧ Kept w w') := by
  obtain ⟨i1, hif1, hy0, hy1, hy2⟩ := info_parts info_u64
  have hm := hr.1
  have hsu := fun j => mk_succ j fun j => nth ys j + 1
  have HSU := Lib.hid hsu
  clear hsu
  go_enter Try.func33, Try.ntmps33
  go_wp2_with fail
  go_loopw [5, 10] (fun v iv wr => ∃ j : Nat, j ≤ n ∧ iv = .int .i64 j ∧ Own .u64 22 w.heap.size wr v (mk j fun j => nth ys j + 1) ∧ Kept w wr) (fun _ iv _ => n - (intOf iv).toNat)
  case atStart => exact ⟨0, Nat.zero_le _, rfl, Own.nil _ _ _ _, kept_refl _⟩
  case round =>
    obtain ⟨j, hj, rfl, hown, hkw⟩ := hrel
    by_cases hlt : j < n
    · obtain ⟨ad, rfl, d0⟩ := (hr.kept hkw).at_ (j := j) (by omega)
      have V := next_c (nth ys j) (hu j).1 (hu j).2
      have hvl := hu j
      have hown2 : World.ownsRow _ _ _ _ _ _ _ := hown
      rw [mk_length] at hown2
      have HS := Lib.hid (HSU.out j)
      clear HSU
      generalize nth ys j = y at *
      go_wp2_with fail
      refine (V _).mono ?_
      rintro e w1 ⟨rfl, hk1⟩
      replace hown2 := rowKept hown2 hk1
      replace hkw := kept_trans hkw hk1
      have hbase := hkw.size
      clear hown hk1 V d0
      go_wp2_with (at_builtin; refine wpList_append_own _ rfl _ _ 33 rfl w.heap.size 22 i1 (.int .u64 0) 1 8 Try.underlying33 hif1 hy0 hy1 hy2 rfl (by decide) _ _ _ rfl (hown2.alloc _) ⟨w1.heap.size, 0, none⟩ 1 1 [.int .u64 (y + 1)] rfl rfl ?c1 ?c2 ?c3 ?c4 ?c5 ?_)
      case c1 =>
        intro q u hq
        match q, hq with
        | 0, hq => simp at hq; subst hq; simp [Addr.add]
      case c2 => intro u hu; simp at hu; subst hu; rfl
      case c3 => unfold maxLen; omega
      case c4 => omega
      case c5 => simp; omega
      · intro v' w5 hown' hgrow _
        have o5 : Own .u64 22 w.heap.size w5 v' (mk (j + 1) fun j => nth ys j + 1) := by
          unfold Own
          rw [mk_length, HS.out, List.map_append]
          exact hown'
        have K5 := kept_grown (kept_alloc hkw _) (hown2.alloc _) (Nat.le_refl _) hgrow
        clear hown' hgrow hown2
        go_wp2_with fail
        exact ⟨⟨j + 1, by omega, by go_num, o5, K5⟩, by simp [intOf]; omega⟩
    · obtain rfl : j = n := by omega
      clear HSU
      go_wp2_with fail
      go_ret
      exact ⟨_, rfl, hown, hkw⟩
set_option maxRecDepth 100000 in
set_option maxHeartbeats 4000000 in
theorem madeU_c (A : Option Addr) (cap n g : Nat) (ys : List Int) (hu : ∀ j, 0 ≤ nth ys j ∧ nth ys j ≤ 256) (hl : ys.length = n) (hn : n ≤ 1000000) (w : World) (hr : Rd .u64 w A ys) (hg : w.cell? ⟨g, 0, none⟩ = some (.int .i64 2)) : Calls Try.prog 36 #[.slice A n cap, .func (.func 31) #[] #[.pointer (some ⟨g, 0, none⟩)]] w fun e w' => ∃ v, e = .returned v ∧ (Own .u64 22 w.heap.size w' v (mk n fun j => nth ys j * nth ys j) ∧ Kept w w') := by
  obtain ⟨i1, hif1, hy0, hy1, hy2⟩ := info_parts info_u64
  have hm := hr.1
  have hsu := fun j => mk_succ j fun j => nth ys j * nth ys j
  have HSU := Lib.hid hsu
  clear hsu
  go_enter Try.func36, Try.ntmps36
  go_wp2_with fail
  go_loopw [5, 10] (fun v iv wr => ∃ j : Nat, j ≤ n ∧ iv = .int .i64 j ∧ Own .u64 22 w.heap.size wr v (mk j fun j => nth ys j * nth ys j) ∧ Kept w wr) (fun _ iv _ => n - (intOf iv).toNat)
  case atStart => exact ⟨0, Nat.zero_le _, rfl, Own.nil _ _ _ _, kept_refl _⟩
  case round =>
    obtain ⟨j, hj, rfl, hown, hkw⟩ := hrel
    by_cases hlt : j < n
    · obtain ⟨ad, rfl, d0⟩ := (hr.kept hkw).at_ (j := j) (by omega)
      have V := square_c (nth ys j) (hu j).1 (by have := (hu j).2; omega) g wr (kept_cell hkw hg)
      have hvl := hu j
      have hown2 : World.ownsRow _ _ _ _ _ _ _ := hown
      rw [mk_length] at hown2
      have HS := Lib.hid (HSU.out j)
      clear HSU
      generalize nth ys j = y at *
      go_wp2_with fail
      refine V.mono ?_
      rintro e w1 ⟨rfl, hk1⟩
      replace hown2 := rowKept hown2 hk1
      replace hkw := kept_trans hkw hk1
      have hbase := hkw.size
      clear hown hk1 V d0
      go_wp2_with (at_builtin; refine wpList_append_own _ rfl _ _ 33 rfl w.heap.size 22 i1 (.int .u64 0) 1 8 Try.underlying33 hif1 hy0 hy1 hy2 rfl (by decide) _ _ _ rfl (hown2.alloc _) ⟨w1.heap.size, 0, none⟩ 1 1 [.int .u64 (y * y)] rfl rfl ?c1 ?c2 ?c3 ?c4 ?c5 ?_)
      case c1 =>
        intro q u hq
        match q, hq with
        | 0, hq => simp at hq; subst hq; simp [Addr.add]
      case c2 => intro u hu; simp at hu; subst hu; rfl
      case c3 => unfold maxLen; omega
      case c4 => omega
      case c5 => simp; omega
      · intro v' w5 hown' hgrow _
        have o5 : Own .u64 22 w.heap.size w5 v' (mk (j + 1) fun j => nth ys j * nth ys j) := by
          unfold Own
          rw [mk_length, HS.out, List.map_append]
          exact hown'
        have K5 := kept_grown (kept_alloc hkw _) (hown2.alloc _) (Nat.le_refl _) hgrow
        clear hown' hgrow hown2
        go_wp2_with fail
        exact ⟨⟨j + 1, by omega, by go_num, o5, K5⟩, by simp [intOf]; omega⟩
    · obtain rfl : j = n := by omega
      clear HSU
      go_wp2_with fail
      go_ret
      exact ⟨_, rfl, hown, hkw⟩
end Go.Proofs.Ytobailigphmopaa
/-
  Layer 10 (wild): a text's bytes as a row; what the sums are.
-/
namespace Go.Proofs.Ytobailigphmopaa
open Go.RowKit BG
attribute [local go_sem ↓] Go.wp_at_zero Go.wp_at_succ
set_option linter.unusedVariables false

/-- A text's bytes. -/
def bytesL (s : ByteArray) : List Int := mk s.size fun i => (byteAt s i : Int)
theorem bytesL_length (s : ByteArray) : (bytesL s).length = s.size := mk_length _ _
theorem bytesL_at {s : ByteArray} {i : Nat} (h : i < s.size) : nth (bytesL s) i = byteAt s i := nth_mk h
theorem bytesL_bd (s : ByteArray) (i : Nat) : 0 ≤ nth (bytesL s) i ∧ nth (bytesL s) i ≤ 255 := by
  by_cases h : i < s.size
  · rw [bytesL_at h]; have := byteAt_lt s i; omega
  · unfold nth; rw [List.getD_eq_getElem?_getD, List.getElem?_eq_none (by rw [bytesL_length]; omega)]; exact ⟨Int.le_refl 0, by decide⟩
theorem bytesRow_at {s : ByteArray} {cap i : Nat} (h : i < s.size) : (bytesRow s cap)[i]? = some (.int .u8 (byteAt s i : Nat)) := by
  unfold bytesRow
  have hd : i < s.data.size := h
  rw [Array.getElem?_append_left (by simpa using hd), Array.getElem?_map, Array.getElem?_eq_getElem hd, ← byteAt_eq h]
  rfl
theorem bytes_rd {w : World} {g cap : Nat} {t : TypeId} {fr : Nat × Nat} {s : ByteArray} (h : w.heap[g]? = some (.cells (bytesRow s cap) t fr)) (hsz : s.size ≤ 9223372036854775807) : Rd .u8 w (some ⟨g, 0, none⟩) (bytesL s) := by
  refine ⟨by rw [bytesL_length]; exact hsz, fun _ => ⟨_, rfl, fun j hj => ?_⟩⟩
  rw [bytesL_length] at hj
  have e : (⟨g, 0, none⟩ : Addr).add j = ⟨g, j, none⟩ := by unfold Addr.add; split <;> simp_all
  rw [e, cell_of_row w g j _ t fr h, bytesRow_at hj, bytesL_at hj]
theorem wpList_bytes {P : Program} {w : World} {ops : Array Oper} {rest : List Oper} {o : Oper} {a : Act} {Q : Exit → Act → World → Prop} (hgd : o.guard = none) (x : Operand) (src dst e : TypeId)
    (ho : o.op = .convert src dst x) (s : ByteArray) (hx : a.eval x = .string s) (hs : P.underlying src = some .string) (hd : P.underlying dst = some (.slice e)) (he : P.underlying e = some (.int .u8)) (hsz : s.size ≤ 9223372036854775807)
    (h : ∀ cap w', Rd .u8 w' (some ⟨w.heap.size, 0, none⟩) (bytesL s) → Kept w w' → wpList P ops Q rest (a.put o.dst (.slice (some ⟨w.heap.size, 0, none⟩) s.size cap)) w') : wpList P ops Q (o :: rest) a w := by
  refine wpList_plain hgd fun K hK => ?_
  have hrun := run_bytes_of_string (P := P) w src dst e s hs hd he
  unfold Oper.wp
  simp only [execOp, ho, hx, Sem.run_bind, hrun, Result.andThen_ok, Sem.run_pure]
  exact hK _ _ (h _ _ (bytes_rd (blk_new w.drew _) hsz) (kept_alloc (kept_drew (kept_refl w)) _))
end Go.Proofs.Ytobailigphmopaa
