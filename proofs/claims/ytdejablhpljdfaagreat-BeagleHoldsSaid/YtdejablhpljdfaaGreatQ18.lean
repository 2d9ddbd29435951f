/-
  Texts of one claim, joined: TPlan3, TSplit3, TSplit4.
-/
import Derived.Laws.EntriesVeiled
import Derived.Test.YtdejablhpljdfaaGreatQ17
import Derived.Test.YtdejablhpljdfaaGreatQ13
namespace Go.Proofs.YtdejablhpljdfaaGreat
open Go.RowKit BG
attribute [local go_sem ↓] Go.wp_at_zero Go.wp_at_succ
set_option linter.unusedVariables false
def freeb (way : Nat) (xs : List Int) (n : Nat) : Bool := if way = 1 ∨ way = 2 then true else if way = 5 then decide (partsF xs n (kindsC xs n) = 0) else false
def sizedv (way : Nat) (xs : List Int) (n : Nat) (K : Int) (N size : Int) : Bool := admitsv way xs n K && (freeb way xs n || decide (N < (n : Int)) || (hasLog size && decide ((n : Int) ≤ size)))
set_option maxRecDepth 100000 in
set_option maxHeartbeats 4000000 in
theorem sized_0 (A : Option Addr) (cap n : Nat) (xs : List Int) (K : Int) (hu : U64 xs) (hl : xs.length = 4 * n) (hn : n ≤ 1000000) (N size : Int) (w : World) (hr : Rd .u64 w A xs) : Calls Tryz.prog 92 #[.int .i64 0, leafV A n cap K, .int .i64 N, .int .i64 size] w (Ret (.bool (sizedv 0 xs n K N size)) w) := by
  have ka := kept_alloc (kept_refl w) (.cells #[.slice A n cap, .int .i64 K] 61)
  have hb := blk_new w (.cells #[.slice A n cap, .int .i64 K] 61)
  have G := fun w1 => log_c size w1
  have PT := fun w1 h => parts_c A cap n xs K hu hl hn w1 h
  have AD := fun w1 h => admits_0 A cap n xs K hu hl hn w1 h
  unfold Ltuple at G
  unfold sizedv freeb
  simp only [reduceIte, reduceCtorEq, or_self, Bool.false_or]
  generalize admitsv 0 xs n K = av at *
  have hpf : decide (partsF xs n (kindsC xs n) = 0) = ((partsF xs n (kindsC xs n) : Int) == 0) := by rw [Bool.eq_iff_iff]; simp
  try rw [hpf]
  clear hpf
  generalize partsF xs n (kindsC xs n) = pf at *
  generalize partsP xs n (kindsC xs n) = pp at *
  generalize hasLog size = hl1 at *
  obtain ⟨g0, hg0⟩ : ∃ g0, decide (N < (n : Int)) = g0 := ⟨_, rfl⟩
  obtain ⟨s0, hs0⟩ : ∃ s0, decide ((n : Int) ≤ size) = s0 := ⟨_, rfl⟩
  obtain ⟨p0, hp0⟩ : ∃ p0, ((pf : Int) == 0) = p0 := ⟨_, rfl⟩
  try rw [hg0, hs0]
  try rw [hp0]
  go_enter Tryz.func92, Tryz.ntmps92
  go_wp2_with fail
  refine (G _).mono ?_
  rintro e w1 ⟨rfl, hk1⟩
  replace hb := blk_kept hk1 hb
  replace ka := kept_trans ka hk1
  have c0 : w1.cell? ⟨w.heap.size, 0, none⟩ = some (.slice A n cap) := blk_cell hb 0
  have c1 : w1.cell? ⟨w.heap.size, 1, none⟩ = some (.int .i64 K) := blk_cell hb 1
  clear G hk1
  go_wp2_with fail
  refine (PT _ (hr.kept ka)).mono ?_
  rintro e w2 ⟨rfl, hk2⟩
  replace hb := blk_kept hk2 hb
  replace ka := kept_trans ka hk2
  replace c0 : w2.cell? ⟨w.heap.size, 0, none⟩ = some (.slice A n cap) := blk_cell hb 0
  replace c1 : w2.cell? ⟨w.heap.size, 1, none⟩ = some (.int .i64 K) := blk_cell hb 1
  clear PT hk2
  skip
  all_goals
    go_wp2_with fail
    refine (AD _ (hr.kept ka)).mono ?_
    rintro e w3 ⟨rfl, hk3⟩
    replace ka := kept_trans ka hk3
    clear AD hk3 c0 c1 hb
    cases av
    · go_wp2_with fail
      go_ret
      exact ⟨by simp, ka⟩
    · cases g0 <;> cases hl1 <;> cases s0 <;> (go_wp2_with fail; go_ret; exact ⟨by simp, ka⟩)
set_option maxRecDepth 100000 in
set_option maxHeartbeats 4000000 in
theorem sized_1 (A : Option Addr) (cap n : Nat) (xs : List Int) (K : Int) (hu : U64 xs) (hl : xs.length = 4 * n) (hn : n ≤ 1000000) (N size : Int) (w : World) (hr : Rd .u64 w A xs) : Calls Tryz.prog 92 #[.int .i64 1, leafV A n cap K, .int .i64 N, .int .i64 size] w (Ret (.bool (sizedv 1 xs n K N size)) w) := by
  have ka := kept_alloc (kept_refl w) (.cells #[.slice A n cap, .int .i64 K] 61)
  have hb := blk_new w (.cells #[.slice A n cap, .int .i64 K] 61)
  have G := fun w1 => log_c size w1
  have PT := fun w1 h => parts_c A cap n xs K hu hl hn w1 h
  have AD := fun w1 h => admits_1 A cap n xs K hu hl hn w1 h
  unfold Ltuple at G
  unfold sizedv freeb
  simp only [reduceIte, Nat.reduceEqDiff, or_false, Bool.true_or]
  generalize admitsv 1 xs n K = av at *
  have hpf : decide (partsF xs n (kindsC xs n) = 0) = ((partsF xs n (kindsC xs n) : Int) == 0) := by rw [Bool.eq_iff_iff]; simp
  try rw [hpf]
  clear hpf
  generalize partsF xs n (kindsC xs n) = pf at *
  generalize partsP xs n (kindsC xs n) = pp at *
  generalize hasLog size = hl1 at *
  obtain ⟨g0, hg0⟩ : ∃ g0, decide (N < (n : Int)) = g0 := ⟨_, rfl⟩
  obtain ⟨s0, hs0⟩ : ∃ s0, decide ((n : Int) ≤ size) = s0 := ⟨_, rfl⟩
  obtain ⟨p0, hp0⟩ : ∃ p0, ((pf : Int) == 0) = p0 := ⟨_, rfl⟩
  try rw [hg0, hs0]
  try rw [hp0]
  go_enter Tryz.func92, Tryz.ntmps92
  go_wp2_with fail
  refine (G _).mono ?_
  rintro e w1 ⟨rfl, hk1⟩
  replace hb := blk_kept hk1 hb
  replace ka := kept_trans ka hk1
  have c0 : w1.cell? ⟨w.heap.size, 0, none⟩ = some (.slice A n cap) := blk_cell hb 0
  have c1 : w1.cell? ⟨w.heap.size, 1, none⟩ = some (.int .i64 K) := blk_cell hb 1
  clear G hk1
  go_wp2_with fail
  refine (PT _ (hr.kept ka)).mono ?_
  rintro e w2 ⟨rfl, hk2⟩
  replace hb := blk_kept hk2 hb
  replace ka := kept_trans ka hk2
  replace c0 : w2.cell? ⟨w.heap.size, 0, none⟩ = some (.slice A n cap) := blk_cell hb 0
  replace c1 : w2.cell? ⟨w.heap.size, 1, none⟩ = some (.int .i64 K) := blk_cell hb 1
  clear PT hk2
  skip
  all_goals
    go_wp2_with fail
    refine (AD _ (hr.kept ka)).mono ?_
    rintro e w3 ⟨rfl, hk3⟩
    replace ka := kept_trans ka hk3
    clear AD hk3 c0 c1 hb
    cases av
    · go_wp2_with fail
      go_ret
      exact ⟨by simp, ka⟩
    · cases g0 <;> cases hl1 <;> cases s0 <;> (go_wp2_with fail; go_ret; exact ⟨by simp, ka⟩)
set_option maxRecDepth 100000 in
set_option maxHeartbeats 4000000 in
theorem sized_2 (A : Option Addr) (cap n : Nat) (xs : List Int) (K : Int) (hu : U64 xs) (hl : xs.length = 4 * n) (hn : n ≤ 1000000) (N size : Int) (w : World) (hr : Rd .u64 w A xs) : Calls Tryz.prog 92 #[.int .i64 2, leafV A n cap K, .int .i64 N, .int .i64 size] w (Ret (.bool (sizedv 2 xs n K N size)) w) := by
  have ka := kept_alloc (kept_refl w) (.cells #[.slice A n cap, .int .i64 K] 61)
  have hb := blk_new w (.cells #[.slice A n cap, .int .i64 K] 61)
  have G := fun w1 => log_c size w1
  have PT := fun w1 h => parts_c A cap n xs K hu hl hn w1 h
  have AD := fun w1 h => admits_2 A cap n xs K hu hl hn w1 h
  unfold Ltuple at G
  unfold sizedv freeb
  simp only [reduceIte, Nat.reduceEqDiff, or_true, Nat.succ_ne_self, Bool.true_or]
  generalize admitsv 2 xs n K = av at *
  have hpf : decide (partsF xs n (kindsC xs n) = 0) = ((partsF xs n (kindsC xs n) : Int) == 0) := by rw [Bool.eq_iff_iff]; simp
  try rw [hpf]
  clear hpf
  generalize partsF xs n (kindsC xs n) = pf at *
  generalize partsP xs n (kindsC xs n) = pp at *
  generalize hasLog size = hl1 at *
  obtain ⟨g0, hg0⟩ : ∃ g0, decide (N < (n : Int)) = g0 := ⟨_, rfl⟩
  obtain ⟨s0, hs0⟩ : ∃ s0, decide ((n : Int) ≤ size) = s0 := ⟨_, rfl⟩
  obtain ⟨p0, hp0⟩ : ∃ p0, ((pf : Int) == 0) = p0 := ⟨_, rfl⟩
  try rw [hg0, hs0]
  try rw [hp0]
  go_enter Tryz.func92, Tryz.ntmps92
  go_wp2_with fail
  refine (G _).mono ?_
  rintro e w1 ⟨rfl, hk1⟩
  replace hb := blk_kept hk1 hb
  replace ka := kept_trans ka hk1
  have c0 : w1.cell? ⟨w.heap.size, 0, none⟩ = some (.slice A n cap) := blk_cell hb 0
  have c1 : w1.cell? ⟨w.heap.size, 1, none⟩ = some (.int .i64 K) := blk_cell hb 1
  clear G hk1
  go_wp2_with fail
  refine (PT _ (hr.kept ka)).mono ?_
  rintro e w2 ⟨rfl, hk2⟩
  replace hb := blk_kept hk2 hb
  replace ka := kept_trans ka hk2
  replace c0 : w2.cell? ⟨w.heap.size, 0, none⟩ = some (.slice A n cap) := blk_cell hb 0
  replace c1 : w2.cell? ⟨w.heap.size, 1, none⟩ = some (.int .i64 K) := blk_cell hb 1
  clear PT hk2
  skip
  all_goals
    go_wp2_with fail
    refine (AD _ (hr.kept ka)).mono ?_
    rintro e w3 ⟨rfl, hk3⟩
    replace ka := kept_trans ka hk3
    clear AD hk3 c0 c1 hb
    cases av
    · go_wp2_with fail
      go_ret
      exact ⟨by simp, ka⟩
    · cases g0 <;> cases hl1 <;> cases s0 <;> (go_wp2_with fail; go_ret; exact ⟨by simp, ka⟩)
set_option maxRecDepth 100000 in
set_option maxHeartbeats 4000000 in
theorem sized_3 (A : Option Addr) (cap n : Nat) (xs : List Int) (K : Int) (hu : U64 xs) (hl : xs.length = 4 * n) (hn : n ≤ 1000000) (N size : Int) (w : World) (hr : Rd .u64 w A xs) : Calls Tryz.prog 92 #[.int .i64 3, leafV A n cap K, .int .i64 N, .int .i64 size] w (Ret (.bool (sizedv 3 xs n K N size)) w) := by
  have ka := kept_alloc (kept_refl w) (.cells #[.slice A n cap, .int .i64 K] 61)
  have hb := blk_new w (.cells #[.slice A n cap, .int .i64 K] 61)
  have G := fun w1 => log_c size w1
  have PT := fun w1 h => parts_c A cap n xs K hu hl hn w1 h
  have AD := fun w1 h => admits_3 A cap n xs K hu hl hn w1 h
  unfold Ltuple at G
  unfold sizedv freeb
  simp only [reduceIte, Nat.reduceEqDiff, or_self, Nat.succ_ne_self, Bool.false_or]
  generalize admitsv 3 xs n K = av at *
  have hpf : decide (partsF xs n (kindsC xs n) = 0) = ((partsF xs n (kindsC xs n) : Int) == 0) := by rw [Bool.eq_iff_iff]; simp
  try rw [hpf]
  clear hpf
  generalize partsF xs n (kindsC xs n) = pf at *
  generalize partsP xs n (kindsC xs n) = pp at *
  generalize hasLog size = hl1 at *
  obtain ⟨g0, hg0⟩ : ∃ g0, decide (N < (n : Int)) = g0 := ⟨_, rfl⟩
  obtain ⟨s0, hs0⟩ : ∃ s0, decide ((n : Int) ≤ size) = s0 := ⟨_, rfl⟩
  obtain ⟨p0, hp0⟩ : ∃ p0, ((pf : Int) == 0) = p0 := ⟨_, rfl⟩
  try rw [hg0, hs0]
  try rw [hp0]
  go_enter Tryz.func92, Tryz.ntmps92
  go_wp2_with fail
  refine (G _).mono ?_
  rintro e w1 ⟨rfl, hk1⟩
  replace hb := blk_kept hk1 hb
  replace ka := kept_trans ka hk1
  have c0 : w1.cell? ⟨w.heap.size, 0, none⟩ = some (.slice A n cap) := blk_cell hb 0
  have c1 : w1.cell? ⟨w.heap.size, 1, none⟩ = some (.int .i64 K) := blk_cell hb 1
  clear G hk1
  go_wp2_with fail
  refine (PT _ (hr.kept ka)).mono ?_
  rintro e w2 ⟨rfl, hk2⟩
  replace hb := blk_kept hk2 hb
  replace ka := kept_trans ka hk2
  replace c0 : w2.cell? ⟨w.heap.size, 0, none⟩ = some (.slice A n cap) := blk_cell hb 0
  replace c1 : w2.cell? ⟨w.heap.size, 1, none⟩ = some (.int .i64 K) := blk_cell hb 1
  clear PT hk2
  skip
  all_goals
    go_wp2_with fail
    refine (AD _ (hr.kept ka)).mono ?_
    rintro e w3 ⟨rfl, hk3⟩
    replace ka := kept_trans ka hk3
    clear AD hk3 c0 c1 hb
    cases av
    · go_wp2_with fail
      go_ret
      exact ⟨by simp, ka⟩
    · cases g0 <;> cases hl1 <;> cases s0 <;> (go_wp2_with fail; go_ret; exact ⟨by simp, ka⟩)
set_option maxRecDepth 100000 in
set_option maxHeartbeats 4000000 in
theorem sized_4 (A : Option Addr) (cap n : Nat) (xs : List Int) (K : Int) (hu : U64 xs) (hl : xs.length = 4 * n) (hn : n ≤ 1000000) (N size : Int) (w : World) (hr : Rd .u64 w A xs) : Calls Tryz.prog 92 #[.int .i64 4, leafV A n cap K, .int .i64 N, .int .i64 size] w (Ret (.bool (sizedv 4 xs n K N size)) w) := by
  have ka := kept_alloc (kept_refl w) (.cells #[.slice A n cap, .int .i64 K] 61)
  have hb := blk_new w (.cells #[.slice A n cap, .int .i64 K] 61)
  have G := fun w1 => log_c size w1
  have PT := fun w1 h => parts_c A cap n xs K hu hl hn w1 h
  have AD := fun w1 h => admits_4 A cap n xs K hu hl hn w1 h
  unfold Ltuple at G
  unfold sizedv freeb
  simp only [reduceIte, Nat.reduceEqDiff, or_self, Bool.false_or]
  generalize admitsv 4 xs n K = av at *
  have hpf : decide (partsF xs n (kindsC xs n) = 0) = ((partsF xs n (kindsC xs n) : Int) == 0) := by rw [Bool.eq_iff_iff]; simp
  try rw [hpf]
  clear hpf
  generalize partsF xs n (kindsC xs n) = pf at *
  generalize partsP xs n (kindsC xs n) = pp at *
  generalize hasLog size = hl1 at *
  obtain ⟨g0, hg0⟩ : ∃ g0, decide (N < (n : Int)) = g0 := ⟨_, rfl⟩
  obtain ⟨s0, hs0⟩ : ∃ s0, decide ((n : Int) ≤ size) = s0 := ⟨_, rfl⟩
  obtain ⟨p0, hp0⟩ : ∃ p0, ((pf : Int) == 0) = p0 := ⟨_, rfl⟩
  try rw [hg0, hs0]
  try rw [hp0]
  go_enter Tryz.func92, Tryz.ntmps92
  go_wp2_with fail
  refine (G _).mono ?_
  rintro e w1 ⟨rfl, hk1⟩
  replace hb := blk_kept hk1 hb
  replace ka := kept_trans ka hk1
  have c0 : w1.cell? ⟨w.heap.size, 0, none⟩ = some (.slice A n cap) := blk_cell hb 0
  have c1 : w1.cell? ⟨w.heap.size, 1, none⟩ = some (.int .i64 K) := blk_cell hb 1
  clear G hk1
  go_wp2_with fail
  refine (PT _ (hr.kept ka)).mono ?_
  rintro e w2 ⟨rfl, hk2⟩
  replace hb := blk_kept hk2 hb
  replace ka := kept_trans ka hk2
  replace c0 : w2.cell? ⟨w.heap.size, 0, none⟩ = some (.slice A n cap) := blk_cell hb 0
  replace c1 : w2.cell? ⟨w.heap.size, 1, none⟩ = some (.int .i64 K) := blk_cell hb 1
  clear PT hk2
  skip
  all_goals
    go_wp2_with fail
    refine (AD _ (hr.kept ka)).mono ?_
    rintro e w3 ⟨rfl, hk3⟩
    replace ka := kept_trans ka hk3
    clear AD hk3 c0 c1 hb
    cases av
    · go_wp2_with fail
      go_ret
      exact ⟨by simp, ka⟩
    · cases g0 <;> cases hl1 <;> cases s0 <;> (go_wp2_with fail; go_ret; exact ⟨by simp, ka⟩)
set_option maxRecDepth 100000 in
set_option maxHeartbeats 4000000 in
theorem sized_5 (A : Option Addr) (cap n : Nat) (xs : List Int) (K : Int) (hu : U64 xs) (hl : xs.length = 4 * n) (hn : n ≤ 1000000) (N size : Int) (w : World) (hr : Rd .u64 w A xs) : Calls Tryz.prog 92 #[.int .i64 5, leafV A n cap K, .int .i64 N, .int .i64 size] w (Ret (.bool (sizedv 5 xs n K N size)) w) := by
  have ka := kept_alloc (kept_refl w) (.cells #[.slice A n cap, .int .i64 K] 61)
  have hb := blk_new w (.cells #[.slice A n cap, .int .i64 K] 61)
  have G := fun w1 => log_c size w1
  have PT := fun w1 h => parts_c A cap n xs K hu hl hn w1 h
  have AD := fun w1 h => admits_5 A cap n xs K hu hl hn w1 h
  unfold Ltuple at G
  unfold sizedv freeb
  simp only [reduceIte, Nat.reduceEqDiff, or_self]
  generalize admitsv 5 xs n K = av at *
  have hpf : decide (partsF xs n (kindsC xs n) = 0) = ((partsF xs n (kindsC xs n) : Int) == 0) := by rw [Bool.eq_iff_iff]; simp
  try rw [hpf]
  clear hpf
  generalize partsF xs n (kindsC xs n) = pf at *
  generalize partsP xs n (kindsC xs n) = pp at *
  generalize hasLog size = hl1 at *
  obtain ⟨g0, hg0⟩ : ∃ g0, decide (N < (n : Int)) = g0 := ⟨_, rfl⟩
  obtain ⟨s0, hs0⟩ : ∃ s0, decide ((n : Int) ≤ size) = s0 := ⟨_, rfl⟩
  obtain ⟨p0, hp0⟩ : ∃ p0, ((pf : Int) == 0) = p0 := ⟨_, rfl⟩
  try rw [hg0, hs0]
  try rw [hp0]
  go_enter Tryz.func92, Tryz.ntmps92
  go_wp2_with fail
  refine (G _).mono ?_
  rintro e w1 ⟨rfl, hk1⟩
  replace hb := blk_kept hk1 hb
  replace ka := kept_trans ka hk1
  have c0 : w1.cell? ⟨w.heap.size, 0, none⟩ = some (.slice A n cap) := blk_cell hb 0
  have c1 : w1.cell? ⟨w.heap.size, 1, none⟩ = some (.int .i64 K) := blk_cell hb 1
  clear G hk1
  go_wp2_with fail
  refine (PT _ (hr.kept ka)).mono ?_
  rintro e w2 ⟨rfl, hk2⟩
  replace hb := blk_kept hk2 hb
  replace ka := kept_trans ka hk2
  replace c0 : w2.cell? ⟨w.heap.size, 0, none⟩ = some (.slice A n cap) := blk_cell hb 0
  replace c1 : w2.cell? ⟨w.heap.size, 1, none⟩ = some (.int .i64 K) := blk_cell hb 1
  clear PT hk2
  cases p0
  all_goals
    go_wp2_with fail
    refine (AD _ (hr.kept ka)).mono ?_
    rintro e w3 ⟨rfl, hk3⟩
    replace ka := kept_trans ka hk3
    clear AD hk3 c0 c1 hb
    cases av
    · go_wp2_with fail
      go_ret
      exact ⟨by simp, ka⟩
    · cases g0 <;> cases hl1 <;> cases s0 <;> (go_wp2_with fail; go_ret; exact ⟨by simp, ka⟩)
theorem psized_c (way : Nat) (hw : way ≤ 5) (A : Option Addr) (cap n : Nat) (xs : List Int) (K : Int) (hu : U64 xs) (hl : xs.length = 4 * n) (hn : n ≤ 1000000) (N size : Int) (w : World) (hr : Rd .u64 w A xs) : Calls Tryz.prog 92 #[.int .i64 (way : Int), leafV A n cap K, .int .i64 N, .int .i64 size] w (Ret (.bool (sizedv way xs n K N size)) w) := by
  match way, hw with
  | 0, _ => exact sized_0 A cap n xs K hu hl hn N size w hr
  | 1, _ => exact sized_1 A cap n xs K hu hl hn N size w hr
  | 2, _ => exact sized_2 A cap n xs K hu hl hn N size w hr
  | 3, _ => exact sized_3 A cap n xs K hu hl hn N size w hr
  | 4, _ => exact sized_4 A cap n xs K hu hl hn N size w hr
  | 5, _ => exact sized_5 A cap n xs K hu hl hn N size w hr
end Go.Proofs.YtdejablhpljdfaaGreat
namespace Go.Proofs.YtdejablhpljdfaaGreat
open Go.RowKit BG
attribute [local go_sem ↓] Go.wp_at_zero Go.wp_at_succ
set_option linter.unusedVariables false
def fq (xs : List Int) (n : Nat) (x : Cl) : Bool := decide (3 ≤ cntW xs n x)
def frqL (xs : List Int) (n : Nat) : List Cl := (kindsC xs n).filter (fq xs n)
def rarL (xs : List Int) (n : Nat) : List Cl := (kindsC xs n).filter fun x => !fq xs n x
theorem keep_frq (xs : List Int) (n : Nat) : keepC (fun x => !fq xs n x) (kindsC xs n) (kindsC xs n).length = frqL xs n := by
  unfold keepC frqL
  rw [List.take_length]
  refine List.filter_congr fun x _ => by simp
theorem keep_rar (xs : List Int) (n : Nat) : keepC (fq xs n) (kindsC xs n) (kindsC xs n).length = rarL xs n := by
  unfold keepC rarL
  rw [List.take_length]
set_option maxRecDepth 100000 in
set_option maxHeartbeats 4000000 in
theorem frq1_c (A : Option Addr) (cap n : Nat) (xs : List Int) (K : Int) (x : Cl) (gl gt : Nat) (hu : U64 xs) (hl : xs.length = 4 * n) (hn : n ≤ 1000000) (w : World) (hr : Rd .u64 w A xs) (hgl : w.heap[gl]? = some (.cells #[.slice A n cap, .int .i64 K] 61)) (hgt : w.heap[gt]? = some (.cells #[.int .i64 3] 3)) : Calls Tryz.prog 198 (#[x.v] ++ #[.pointer (some ⟨gl, 0, none⟩), .pointer (some ⟨gt, 0, none⟩)]) w (Ret (.bool (fq xs n x)) w) := by
  have WH := fun w1 h => where_c A cap n xs K x hu hl hn w1 h
  have kx := kept_alloc (kept_refl w) x.cells
  have hbx := blk_new w x.cells
  have hg1 := blk_alloc hgl x.cells
  have hg2 := blk_alloc hgt x.cells
  have hle := cntW_le xs n x
  have hd : fq xs n x = decide ((3 : Int) ≤ ((whereN xs n x).length : Int)) := by
    unfold fq cntW
    rw [Bool.eq_iff_iff, decide_eq_true_eq, decide_eq_true_eq]; omega
  rw [hd]
  unfold cntW at hle
  clear hd
  generalize whereN xs n x = wl at *
  obtain ⟨z0, z1, z2, z3⟩ := x
  dsimp only [Cl.v, Cl.cells] at kx hbx hg1 hg2 WH
  show Calls _ _ #[.agg #[.int .u64 z0, .int .u64 z1, .int .u64 z2, .int .u64 z3], .pointer (some ⟨gl, 0, none⟩), .pointer (some ⟨gt, 0, none⟩)] _ _
  go_enter Tryz.func198, Tryz.ntmps198
  go_wp2_with fail
  generalize w.alloc (.cells #[.int .u64 z0, .int .u64 z1, .int .u64 z2, .int .u64 z3] 110) = Wx at *
  have c0 : Wx.cell? ⟨gl, 0, none⟩ = some (.slice A n cap) := blk_cell hg1 0
  have c1 : Wx.cell? ⟨gl, 1, none⟩ = some (.int .i64 K) := blk_cell hg1 1
  have c2 : Wx.cell? ⟨gt, 0, none⟩ = some (.int .i64 3) := blk_cell hg2 0
  have q0 : Wx.cell? ⟨w.heap.size, 0, none⟩ = some (.int .u64 z0) := blk_cell hbx 0
  have q1 : Wx.cell? ⟨w.heap.size, 1, none⟩ = some (.int .u64 z1) := blk_cell hbx 1
  have q2 : Wx.cell? ⟨w.heap.size, 2, none⟩ = some (.int .u64 z2) := blk_cell hbx 2
  have q3 : Wx.cell? ⟨w.heap.size, 3, none⟩ = some (.int .u64 z3) := blk_cell hbx 3
  have kr := kept_refl Wx
  go_region_held3 (fun w' => w'.cell? ⟨gl, 0, none⟩ = some (.slice A n cap) ∧ w'.cell? ⟨gl, 1, none⟩ = some (.int .i64 K) ∧ w'.cell? ⟨gt, 0, none⟩ = some (.int .i64 3) ∧ w'.cell? ⟨w.heap.size, 0, none⟩ = some (.int .u64 z0) ∧ w'.cell? ⟨w.heap.size, 1, none⟩ = some (.int .u64 z1) ∧ w'.cell? ⟨w.heap.size, 2, none⟩ = some (.int .u64 z2) ∧ w'.cell? ⟨w.heap.size, 3, none⟩ = some (.int .u64 z3)) (first | exact ⟨by assumption, by assumption, by assumption, by assumption, by assumption, by assumption, by assumption⟩ | exact ⟨kept_cell hk1 c0, kept_cell hk1 c1, kept_cell hk1 c2, kept_cell hk1 q0, kept_cell hk1 q1, kept_cell hk1 q2, kept_cell hk1 q3⟩) (first | (go_at_call 195; refine (WH _ ((hr.kept kx).kept (kept_drew kr))).mono ?_; rintro e w1 ⟨v1, rfl, own1, hk1⟩; replace hk1 := kept_trans (kept_drew kr) hk1; obtain ⟨A1, cp1, rfl, _, _, rd1⟩ := own1.rd))
  go_wp2_with fail
  go_ret
  exact ⟨by first | rfl | simp, kept_trans kx (by assumption)⟩
set_option maxRecDepth 100000 in
set_option maxHeartbeats 4000000 in
theorem rar1_c (A : Option Addr) (cap n : Nat) (xs : List Int) (K : Int) (x : Cl) (gl gt gf : Nat) (hu : U64 xs) (hl : xs.length = 4 * n) (hn : n ≤ 1000000) (w : World) (hr : Rd .u64 w A xs) (hgl : w.heap[gl]? = some (.cells #[.slice A n cap, .int .i64 K] 61)) (hgt : w.heap[gt]? = some (.cells #[.int .i64 3] 3)) (hgf : w.heap[gf]? = some (.cells #[.func (.func 198) #[] #[.pointer (some ⟨gl, 0, none⟩), .pointer (some ⟨gt, 0, none⟩)]] 119)) : Calls Tryz.prog 199 (#[x.v] ++ #[.pointer (some ⟨gf, 0, none⟩)]) w (Ret (.bool (!fq xs n x)) w) := by
  have FC := fun w1 h a b => frq1_c A cap n xs K x gl gt hu hl hn w1 h a b
  have kx := kept_alloc (kept_refl w) x.cells
  have hbx := blk_new w x.cells
  have hg1 := blk_alloc hgl x.cells
  have hg2 := blk_alloc hgt x.cells
  have hg3 := blk_alloc hgf x.cells
  generalize fq xs n x = b at *
  obtain ⟨z0, z1, z2, z3⟩ := x
  dsimp only [Cl.v, Cl.cells] at kx hbx hg1 hg2 hg3 FC
  show Calls _ _ #[.agg #[.int .u64 z0, .int .u64 z1, .int .u64 z2, .int .u64 z3], .pointer (some ⟨gf, 0, none⟩)] _ _
  have c2 := blk_cell hg3 0
  have q0 := blk_cell hbx 0
  have q1 := blk_cell hbx 1
  have q2 := blk_cell hbx 2
  have q3 := blk_cell hbx 3
  go_enter Tryz.func199, Tryz.ntmps199
  go_wp2_with fail
  refine (FC _ (hr.kept kx) hg1 hg2).mono ?_
  rintro e w1 ⟨rfl, hk1⟩
  clear FC c2 q0 q1 q2 q3
  go_wp2_with fail
  go_ret
  exact ⟨rfl, kept_trans kx hk1⟩
set_option maxRecDepth 100000 in
set_option maxHeartbeats 1000000 in
theorem cloneC_nil (w : World) : Calls Tryz.prog 72 #[.slice none 0 0] w fun e w' => e = .returned (.slice none 0 0) ∧ w' = w := by
  have hn := nil_slice_eq none 0 0 w
  go_enter Tryz.func72, Tryz.ntmps72
  go_wp2_with fail
  go_ret
  exact ⟨rfl, rfl⟩
set_option maxRecDepth 100000 in
set_option maxHeartbeats 1000000 in
theorem delf_nil (F : FuncId) (bd : Array Value) (hent : ∀ args w, (callFunc F args).run Tryz.prog w = .ok (.enter F args) w) (w : World) : Calls Tryz.prog 200 #[.slice none 0 0, .func (.func F) #[] bd] w (Ret (.slice none 0 0) w) := by
  have IX := idxf_c F bd hent (fun _ => true) none 0 0 [] rfl (by decide) w (Rd.nil _ _ _) (fun j w' hj => absurd hj (Nat.not_lt_zero j))
  rw [show fstv (fun _ => true) [] 0 = -1 from rfl] at IX
  go_enter Tryz.func200, Tryz.ntmps200
  go_wp2_with fail
  refine IX.mono ?_
  rintro e w1 ⟨rfl, hk1⟩
  clear IX
  go_wp2_with fail
  go_ret
  exact ⟨rfl, hk1⟩
def SP (xs : List Int) (n : Nat) (w : World) (e : Ending) (w' : World) : Prop := ∃ A1 c1 A2 c2, e = .returned (.tuple #[.slice A1 (frqL xs n).length c1, .slice A2 (rarL xs n).length c2]) ∧ Rd .u64 w' A1 (flatC (frqL xs n)) ∧ Rd .u64 w' A2 (flatC (rarL xs n)) ∧ Kept w w'
set_option maxRecDepth 100000 in
set_option maxHeartbeats 8000000 in
theorem sparts_c (A : Option Addr) (cap n : Nat) (xs : List Int) (K : Int) (hu : U64 xs) (hl : xs.length = 4 * n) (hn : n ≤ 1000000) (w : World) (hr : Rd .u64 w A xs) : Calls Tryz.prog 148 #[leafV A n cap K, .int .i64 3] w (SP xs n w) := by
  have KN := fun w1 h => lkinds_c A cap n xs K hu hl hn w1 h
  have hkl := kindsC_le xs n
  have hfl := flatC_length (kindsC xs n)
  have hent1 := enters_of Tryz.func198 (by kernel_rfl) rfl
  have hent2 := enters_of Tryz.func199 (by kernel_rfl) rfl
  have h1 := blk_alloc (blk_alloc (blk_new w (.cells #[.slice A n cap, .int .i64 K] 61)) (.cells #[.int .i64 3] 3)) (.cells #[.func (.func 198) #[] #[.pointer (some ⟨w.heap.size, 0, none⟩), .pointer (some ⟨w.heap.size + 1, 0, none⟩)]] 119)
  have h2 := blk_alloc (blk_new1 w (.cells #[.slice A n cap, .int .i64 K] 61) (.cells #[.int .i64 3] 3)) (.cells #[.func (.func 198) #[] #[.pointer (some ⟨w.heap.size, 0, none⟩), .pointer (some ⟨w.heap.size + 1, 0, none⟩)]] 119)
  have h3 := blk_new2 w (.cells #[.slice A n cap, .int .i64 K] 61) (.cells #[.int .i64 3] 3) (.cells #[.func (.func 198) #[] #[.pointer (some ⟨w.heap.size, 0, none⟩), .pointer (some ⟨w.heap.size + 1, 0, none⟩)]] 119)
  have ka := kept_alloc (kept_alloc (kept_alloc (kept_refl w) (.cells #[.slice A n cap, .int .i64 K] 61)) (.cells #[.int .i64 3] 3)) (.cells #[.func (.func 198) #[] #[.pointer (some ⟨w.heap.size, 0, none⟩), .pointer (some ⟨w.heap.size + 1, 0, none⟩)]] 119)
  have c0 := blk_cell h1 0
  have c1 := blk_cell h1 1
  unfold SP
  have HF := Lib.hid (keep_frq xs n)
  have HR := Lib.hid (keep_rar xs n)
  go_enter Tryz.func148, Tryz.ntmps148
  go_wp2_with fail
  refine (KN _ (hr.kept ka)).mono ?_
  rintro e W ⟨vk, rfl, ownk, hkW⟩
  replace h1 := blk_kept hkW h1
  replace h2 := blk_kept hkW h2
  replace h3 := blk_kept hkW h3
  replace ka := kept_trans ka hkW
  have hrW := hr.kept ka
  have f0 : W.cell? ⟨w.heap.size + 1 + 1, 0, none⟩ = some (.func (.func 198) #[] #[.pointer (some ⟨w.heap.size, 0, none⟩), .pointer (some ⟨w.heap.size + 1, 0, none⟩)]) := blk_cell h3 0
  have P1 : ∀ w', Kept W w' → ∀ x ∈ kindsC xs n, Calls Tryz.prog 198 (#[x.v] ++ #[.pointer (some ⟨w.heap.size, 0, none⟩), .pointer (some ⟨w.heap.size + 1, 0, none⟩)]) w' (Ret (.bool (fq xs n x)) w') := fun w' hk x _ => frq1_c A cap n xs K x _ _ hu hl hn w' (hrW.kept hk) (blk_kept hk h1) (blk_kept hk h2)
  have P2 : ∀ w', Kept W w' → ∀ x ∈ kindsC xs n, Calls Tryz.prog 199 (#[x.v] ++ #[.pointer (some ⟨w.heap.size + 1 + 1, 0, none⟩)]) w' (Ret (.bool (!fq xs n x)) w') := fun w' hk x _ => rar1_c A cap n xs K x _ _ _ hu hl hn w' (hrW.kept hk) (blk_kept hk h1) (blk_kept hk h2) (blk_kept hk h3)
  clear KN c0 c1 hkW
  have kr := kept_refl W
  have tok1 : True := trivial
  have tok2 : True := trivial
  rcases ownk.2 with ⟨rfl, hk0⟩ | ⟨gk, ck, cur, hvk, _⟩
  · have hks : kindsC xs n = [] := List.length_eq_zero_iff.1 hk0
    have hfr : frqL xs n = [] := by unfold frqL; rw [hks]; rfl
    have hra : rarL xs n = [] := by unfold rarL; rw [hks]; rfl
    have HE := Lib.hid (⟨hfr, hra⟩ : _ ∧ _)
    clear hfr hra hks hk0 ownk P1 P2 h1 h2 h3
    go_wp2_with fail
    go_region_held3 (fun w' => w'.cell? ⟨w.heap.size + 1 + 1, 0, none⟩ = some (.func (.func 198) #[] #[.pointer (some ⟨w.heap.size, 0, none⟩), .pointer (some ⟨w.heap.size + 1, 0, none⟩)])) (first | assumption | exact kept_cell hk4 f0 | exact kept_cell hk2 f0) (first | (go_at_call 72; refine (cloneC_nil _).mono ?_; rintro e w1 ⟨rfl, rfl⟩) | (have _t := tok1; go_at_call 200; refine (delf_nil _ _ hent2 _).mono ?_; rintro e w2 ⟨rfl, hk2⟩; replace hk2 := kept_trans (kept_drew kr) hk2; clear tok1) | (go_at_call 200; refine (delf_nil _ _ hent1 _).mono ?_; rintro e w4 ⟨rfl, hk4⟩; replace hk4 := kept_trans hk2 hk4))
    go_wp2_with fail
    exact bodyPost_ret (v := .tuple #[.slice none 0 0, .slice none 0 0]) (by simp [results, Tryz.results148, go_sem]) rfl ⟨none, 0, none, 0, by rw [HE.out.1, HE.out.2]; rfl, by rw [HE.out.1]; exact Rd.nil _ _ _, by rw [HE.out.2]; exact Rd.nil _ _ _, kept_trans ka (by assumption)⟩
  · subst hvk
    obtain ⟨A', c', eA, _, rdk⟩ := ownN_rd ownk hfl (by omega)
    simp only [Value.slice.injEq] at eA
    obtain ⟨rfl, _, rfl⟩ := eA
    have hok := kinds_u64 hu n
    have HC := Lib.hid (fun x (hx : x ∈ kindsC xs n) => hok x hx)
    clear ownk hok
    go_wp2_with fail
    go_region_held3 (fun w' => w'.cell? ⟨w.heap.size + 1 + 1, 0, none⟩ = some (.func (.func 198) #[] #[.pointer (some ⟨w.heap.size, 0, none⟩), .pointer (some ⟨w.heap.size + 1, 0, none⟩)])) (first | assumption | exact kept_cell hk4 f0 | exact kept_cell hk3 f0 | exact kept_cell hk2 f0 | exact kept_cell hk1 f0) (first | (have _t := tok1; go_at_call 72; refine (cloneC_c _ _ _ _ hfl (by omega) _ (rdk.kept (kept_drew kr))).mono ?_; rintro e w1 ⟨g1, cp1, rfl, own1, hk1⟩; replace hk1 := kept_trans (kept_drew kr) hk1; clear tok1) | (have _t := tok2; go_at_call 200; refine (delf_c _ _ hent2 (fun x => !fq xs n x) (kindsC xs n) g1 cp1 _ (by omega) W w1 hk1 (by exact Nat.le_refl _) own1 (fun x hx w' hk => P2 w' hk x hx)).mono ?_; rintro e w2 ⟨rfl, rd2, hg2⟩; rw [HF.out] at rd2; have hg1s := World.ownsRow.lt own1 g1 rfl; have hk2 := kept_grow hk1 hg2 (by rintro k h; cases h; exact hg1s.1); clear tok2) | (go_at_call 72; refine (cloneC_c _ _ _ _ hfl (by omega) _ (rdk.kept hk2)).mono ?_; rintro e w3 ⟨g3, cp3, rfl, own3, hk3'⟩; replace rd2 := rd2.kept hk3'; have hk3 := kept_trans hk2 hk3') | (go_at_call 200; refine (delf_c _ _ hent1 (fq xs n) (kindsC xs n) g3 cp3 _ (by omega) W w3 hk3 hk2.size own3 (fun x hx w' hk => P1 w' hk x hx)).mono ?_; rintro e w4 ⟨rfl, rd4, hg4⟩; rw [HR.out] at rd4; have hg3s := World.ownsRow.lt own3 g3 rfl; have hk4 := kept_grow hk3 hg4 (by rintro k h; cases h; exact Nat.le_trans hk2.size hg3s.1); have hgs2 := hg2.size; have rd5 := rd_grown rd2 hg4 (fun ad e h => by cases e; simp only [Option.some.injEq] at h; subst h; omega)))
    go_wp2_with fail
    rw [HF.out, HR.out]
    exact bodyPost_ret (v := .tuple #[.slice (some ⟨g1, 0, none⟩) (frqL xs n).length cp1, .slice (some ⟨g3, 0, none⟩) (rarL xs n).length cp3]) (by simp [results, Tryz.results148, go_sem]) rfl ⟨_, cp1, _, cp3, rfl, rd5, rd4, kept_trans ka hk4⟩
end Go.Proofs.YtdejablhpljdfaaGreat
namespace Go.Proofs.YtdejablhpljdfaaGreat
open Go.RowKit BG
attribute [local go_sem ↓] Go.wp_at_zero Go.wp_at_succ run_max_at
set_option linter.unusedVariables false
def splE (xs : List Int) (n : Nat) (K : Int) (N : Nat) (size : Int) (F : Nat) : Int := if rightv xs n K = true ∧ plainv xs n = true then (if 0 < F ∧ n ≤ N ∧ szb n size = false then 50 else 0) else 170
set_option maxRecDepth 100000 in
set_option maxHeartbeats 8000000 in
theorem splcheck_c (A : Option Addr) (cap n : Nat) (xs : List Int) (K : Int) (s : ByteArray) (size : Int) (F : Nat) (hu : U64 xs) (hl : xs.length = 4 * n) (hn : n ≤ 1000000) (hF : F ≤ 1000000) (hs : s.size ≤ 9223372036854775807) (w : World) (hr : Rd .u64 w A xs) : Calls Tryz.prog 149 #[leafV A n cap K, .string s, .int .i64 size, .int .i64 (F : Nat)] w (Ret (.int .i64 (splE xs n K s.size size F)) w) := by
  have ka := kept_alloc (kept_refl w) (.cells #[.slice A n cap, .int .i64 K] 61)
  have hb := blk_new w (.cells #[.slice A n cap, .int .i64 K] 61)
  have G := fun w1 => log_c size w1
  have R := fun w1 h => right_c A cap n xs K hl w1 h
  have P := fun w1 h => plain_c A cap n xs K hu hl w1 h
  unfold Ltuple at G
  have hE : splE xs n K s.size size F = if rightv xs n K = true ∧ plainv xs n = true then (if decide (0 < F) = true ∧ decide (n ≤ s.size) = true ∧ (hasLog size && decide ((n : Int) ≤ size)) = false then 50 else 0) else 170 := by unfold splE szb; simp only [decide_eq_true_eq]
  have HE := Lib.hid hE
  clear hE
  generalize splE xs n K s.size size F = er at *
  generalize rightv xs n K = rv at *
  generalize plainv xs n = pv at *
  generalize hasLog size = h1 at *
  obtain ⟨f0, hf0⟩ : ∃ f0, decide (0 < F) = f0 := ⟨_, rfl⟩
  have hf1 : decide ((0 : Int) < (F : Int)) = f0 := by rw [← hf0, Bool.eq_iff_iff]; simp
  obtain ⟨d0, hd0⟩ : ∃ d0, decide (n ≤ s.size) = d0 := ⟨_, rfl⟩
  obtain ⟨d1, hd1⟩ : ∃ d1, decide (size < (n : Int)) = d1 := ⟨_, rfl⟩
  have hd2 : decide ((n : Int) ≤ size) = !d1 := by rw [← hd1, Bool.eq_iff_iff]; simp
  rw [hf0, hd0, hd2] at HE
  clear hd2
  go_enter Tryz.func149, Tryz.ntmps149
  go_wp2_with fail
  refine (G _).mono ?_
  rintro e w1 ⟨rfl, hk1⟩
  replace hb := blk_kept hk1 hb
  replace ka := kept_trans ka hk1
  have c0 : w1.cell? ⟨w.heap.size, 0, none⟩ = some (.slice A n cap) := blk_cell hb 0
  have c1 : w1.cell? ⟨w.heap.size, 1, none⟩ = some (.int .i64 K) := blk_cell hb 1
  clear G hk1
  go_wp2_with fail
  refine (R _ (hr.kept ka)).mono ?_
  rintro e w2 ⟨rfl, hk2⟩
  replace hb := blk_kept hk2 hb
  replace ka := kept_trans ka hk2
  replace c0 : w2.cell? ⟨w.heap.size, 0, none⟩ = some (.slice A n cap) := blk_cell hb 0
  replace c1 : w2.cell? ⟨w.heap.size, 1, none⟩ = some (.int .i64 K) := blk_cell hb 1
  clear R hk2
  cases rv
  · go_wp2_with fail
    go_ret
    exact ⟨by rw [HE.out]; simp, ka⟩
  · go_wp2_with fail
    refine (P _ (hr.kept ka)).mono ?_
    rintro e w3 ⟨rfl, hk3⟩
    replace hb := blk_kept hk3 hb
    replace ka := kept_trans ka hk3
    replace c0 : w3.cell? ⟨w.heap.size, 0, none⟩ = some (.slice A n cap) := blk_cell hb 0
    clear P hk3 c1
    cases pv
    · go_wp2_with fail
      go_ret
      exact ⟨by rw [HE.out]; simp, ka⟩
    · cases f0
      · go_wp2_with fail
        go_ret
        exact ⟨by rw [HE.out]; simp, ka⟩
      · cases d0
        · go_wp2_with fail
          go_ret
          exact ⟨by rw [HE.out]; simp, ka⟩
        · cases h1 <;> cases d1 <;> (go_wp2_with fail; go_ret; exact ⟨by rw [HE.out]; simp, ka⟩)
set_option maxRecDepth 100000 in
set_option maxHeartbeats 1000000 in
theorem splsums_c (A : Option Addr) (cap n : Nat) (xs : List Int) (K : Int) (s : ByteArray) (hl : xs.length = 4 * n) (hs : s.size ≤ 1000000) (w : World) (hr : Rd .u64 w A xs) : Calls Tryz.prog 201 #[leafV A n cap K, .string s] w (Ret (.int .i64 (nsums xs n K s : Nat)) w) := by
  have ka := kept_alloc (kept_refl w) (.cells #[.slice A n cap, .int .i64 K] 61)
  have hb := blk_new w (.cells #[.slice A n cap, .int .i64 K] 61)
  have R := fun w1 h => right_c A cap n xs K hl w1 h
  have hm := hr.1
  have hN : nsums xs n K s = if rightv xs n K = true then s.size + 1 - n else 0 := rfl
  have HN := Lib.hid hN
  clear hN
  generalize nsums xs n K s = NB at *
  generalize rightv xs n K = rv at *
  have c0 : (w.alloc (.cells #[.slice A n cap, .int .i64 K] 61)).cell? ⟨w.heap.size, 0, none⟩ = some (.slice A n cap) := blk_cell hb 0
  have c1 : (w.alloc (.cells #[.slice A n cap, .int .i64 K] 61)).cell? ⟨w.heap.size, 1, none⟩ = some (.int .i64 K) := blk_cell hb 1
  go_enter Tryz.func201, Tryz.ntmps201
  go_wp2_with fail
  refine (R _ (hr.kept ka)).mono ?_
  rintro e w1 ⟨rfl, hk1⟩
  replace ka := kept_trans ka hk1
  replace c0 : w1.cell? ⟨w.heap.size, 0, none⟩ = some (.slice A n cap) := blk_cell (blk_kept hk1 hb) 0
  clear R hk1 c1
  cases rv
  · go_wp2_with fail
    go_ret
    exact ⟨by rw [HN.out]; rfl, ka⟩
  · have hmx : max (0 : Int) ((s.size : Int) - (n : Int) + 1) = ((s.size + 1 - n : Nat) : Int) := by omega
    go_wp2_with fail
    go_ret
    exact ⟨by rw [HN.out, if_pos (by first | rfl | trivial)]; rfl, ka⟩
end Go.Proofs.YtdejablhpljdfaaGreat
