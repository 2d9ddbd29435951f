/-
  Layer 21 (turn): where points are.
-/
import Derived.Test.YtkifafdbobhlpaaWTurn
namespace Go.Proofs.Ytkifafdbobhlpaa
open Go.RowKit BG
attribute [local go_sem ↓] Go.wp_at_zero Go.wp_at_succ
set_option linter.unusedVariables false

def X (xs : List Int) (j : Nat) : Int := nth xs (j * 2)
def Y (xs : List Int) (j : Nat) : Int := nth xs (j * 2 + 1)
def lo (f : Nat → Int) : Nat → Int
  | 0 => f 0
  | j + 1 => min (lo f j) (f j)
def hi (f : Nat → Int) : Nat → Int
  | 0 => f 0
  | j + 1 => max (hi f j) (f j)
def boxOk (xs : List Int) (n : Nat) : Bool := decide (0 < n ∧ ∀ j, j < n → win (X xs j) (Y xs j) = true)
abbrev arr4 (a b c d : Int) : Value := .agg #[.int .i64 a, .int .i64 b, .int .i64 c, .int .i64 d]
def onlyIf (b : Bool) (z : Int) : Int := if b then z else 0
abbrev Btuple (xs : List Int) (n : Nat) : Value := .tuple #[arr4 (onlyIf (boxOk xs n) (lo (X xs) n)) (onlyIf (boxOk xs n) (lo (Y xs) n)) (onlyIf (boxOk xs n) (hi (X xs) n)) (onlyIf (boxOk xs n) (hi (Y xs) n)), .bool (boxOk xs n)]
section
variable {P : Program} (w : World)
theorem run_min_at (ts : Array TypeId) (t : TypeId) (k k' : IntKind) (x y : Int) : (Builtin.min_ ts t #[.int k x, .int k' y]).run P w = .ok (.int k (min x y)) w := by
  rw [Go.run_min_int2, show (if y < x then y else x) = min x y by split <;> omega]
theorem run_max_at (ts : Array TypeId) (t : TypeId) (k k' : IntKind) (x y : Int) : (Builtin.max_ ts t #[.int k x, .int k' y]).run P w = .ok (.int k (max x y)) w := by
  rw [Go.run_max_int2, show (if y > x then y else x) = max x y by split <;> omega]
end
attribute [local go_sem ↓] run_min_at run_max_at
theorem blk_drew {w : World} {g : Nat} {o : Obj} (h : w.heap[g]? = some o) : w.drew.heap[g]? = some o := h
theorem add_next (ad : Addr) (k : Nat) : (⟨(ad.add k).block, (ad.add k).off + 1, none⟩ : Addr) = ad.add (k + 1) := by
  unfold Addr.add
  by_cases h : k = 0
  · subst h; simp
  · rw [if_neg h, if_neg (by omega)]; simp; omega
theorem Rd.point {w : World} {A : Option Addr} {xs : List Int} {n j : Nat} (h : Rd .i64 w A xs) (hl : xs.length = 2 * n) (hj : j < n) : ∃ ad, A = some ad ∧ w.cell? (ad.add (j * 2)) = some (.int .i64 (X xs j)) ∧ w.cell? ⟨(ad.add (j * 2)).block, (ad.add (j * 2)).off + 1, none⟩ = some (.int .i64 (Y xs j)) := by
  obtain ⟨ad, e, hc⟩ := h.2 (by omega)
  exact ⟨ad, e, hc (j * 2) (by omega), by rw [add_next]; exact hc (j * 2 + 1) (by omega)⟩
theorem box_c (A : Option Addr) (cap : Nat) (xs : List Int) (n : Nat) (hl : xs.length = 2 * n) (w : World) (hr : Rd .i64 w A xs) :
    Calls Try.prog 12 #[.slice A n cap] w (Ret (Btuple xs n) w) := by
  have hm := hr.1
  rcases Nat.eq_zero_or_pos n with rfl | hn
  · have h0 : boxOk xs 0 = false := by simp [boxOk]
    unfold Btuple
    rw [h0]
    simp only [onlyIf, Bool.false_eq_true, if_false]
    clear h0
    go_enter Try.func12, Try.ntmps12
    go_wp2_with fail
    refine bodyPost_ret (v := .tuple #[arr4 0 0 0 0, .bool false]) (by simp [results, Try.results12, go_sem, arr4]) rfl ⟨rfl, by go_grown⟩
  · have hne : ((n : Int) == 0) = false := by rw [beq_eq_false_iff_ne]; omega
    obtain ⟨ad, rfl, c0, c1⟩ := hr.point hl hn
    simp only [Addr.add] at c0 c1
    simp at c0 c1
    have Z : Kept w (w.alloc (.cells #[.int .i64 0, .int .i64 0, .int .i64 0, .int .i64 0] 27)) := kept_alloc (kept_refl w) _
    have Z2 := kept_alloc Z (.cells #[.int .i64 0, .int .i64 0, .int .i64 0, .int .i64 0] 27)
    have d0 := kept_cell Z c0
    have d1 := kept_cell Z c1
    have f0 := kept_cell Z2 c0
    have f1 := kept_cell Z2 c1
    have Z3 := kept_alloc Z (.cells #[.int .i64 (X xs 0), .int .i64 (Y xs 0), .int .i64 (X xs 0), .int .i64 (Y xs 0)] 27)
    go_enter Try.func12, Try.ntmps12
    go_wp2_with fail
    go_big_region
    clear f0 f1 d0 d1 Z Z2
    go_wp2_with fail
    go_loopw [30] (fun i wr => ∃ j : Nat, j ≤ n ∧ i = .int .i64 j ∧ wr.heap[w.heap.size]? = some (.cells #[.int .i64 0, .int .i64 0, .int .i64 0, .int .i64 0] 27 (0, 0)) ∧ wr.heap[w.heap.size + 1]? = some (.cells #[.int .i64 (lo (X xs) j), .int .i64 (lo (Y xs) j), .int .i64 (hi (X xs) j), .int .i64 (hi (Y xs) j)] 27 (0, 0)) ∧ Kept w wr ∧ Hid (∀ q, q < j → win (X xs q) (Y xs q) = true)) (fun i _ => n - (intOf i).toNat)
    case atStart => exact ⟨0, Nat.zero_le _, rfl, blk_drew (blk_alloc (blk_new w _) _), blk_drew (blk_new1 w _ _), kept_drew Z3, fun q hq => absurd hq (Nat.not_lt_zero q)⟩
    case round =>
      obtain ⟨j, hj, rfl, hz, ho, hk, HQ⟩ := hrel
      clear c0 c1
      by_cases hlt : j < n
      · obtain ⟨_, hx, c0, c1⟩ := (hr.kept hk).point hl hlt
        cases hx
        have hp := blk_new wr (.cells #[.int .i64 (X xs j), .int .i64 (Y xs j)] 35)
        have kp := kept_alloc (kept_refl wr) (.cells #[.int .i64 (X xs j), .int .i64 (Y xs j)] 35)
        cases hwin : win (X xs j) (Y xs j)
        · go_wp2_with fail
          refine (within_c (X xs j) (Y xs j) _).mono ?_
          rintro e w1 ⟨rfl, hk1⟩
          replace hz := blk_kept (kept_trans kp hk1) hz
          have z0 : _ = some (Value.int .i64 0) := blk_cell hz 0
          have z1 : _ = some (Value.int .i64 0) := blk_cell hz 1
          have z2 : _ = some (Value.int .i64 0) := blk_cell hz 2
          have z3 : _ = some (Value.int .i64 0) := blk_cell hz 3
          have zf0 := blk_frozen hz 0
          have zf1 := blk_frozen hz 1
          have zf2 := blk_frozen hz 2
          have zf3 := blk_frozen hz 3
          clear ho c0 c1
          go_wp2_with fail
          have S0 : (w1.setCell ⟨w.heap.size, 0, none⟩ (.int .i64 (0))).heap[w.heap.size]? = some (.cells #[.int .i64 (0), .int .i64 (0), .int .i64 (0), .int .i64 (0)] 27 (0, 0)) := blk_set hz 0 _
          have S1 : ((w1.setCell ⟨w.heap.size, 0, none⟩ (.int .i64 (0))).setCell ⟨w.heap.size, 1, none⟩ (.int .i64 (0))).heap[w.heap.size]? = some (.cells #[.int .i64 (0), .int .i64 (0), .int .i64 (0), .int .i64 (0)] 27 (0, 0)) := blk_set S0 1 _
          have S2 : (((w1.setCell ⟨w.heap.size, 0, none⟩ (.int .i64 (0))).setCell ⟨w.heap.size, 1, none⟩ (.int .i64 (0))).setCell ⟨w.heap.size, 2, none⟩ (.int .i64 (0))).heap[w.heap.size]? = some (.cells #[.int .i64 (0), .int .i64 (0), .int .i64 (0), .int .i64 (0)] 27 (0, 0)) := blk_set S1 2 _
          have S3 : ((((w1.setCell ⟨w.heap.size, 0, none⟩ (.int .i64 (0))).setCell ⟨w.heap.size, 1, none⟩ (.int .i64 (0))).setCell ⟨w.heap.size, 2, none⟩ (.int .i64 (0))).setCell ⟨w.heap.size, 3, none⟩ (.int .i64 (0))).heap[w.heap.size]? = some (.cells #[.int .i64 (0), .int .i64 (0), .int .i64 (0), .int .i64 (0)] 27 (0, 0)) := blk_set S2 3 _
          have r0 := blk_cell S3 0
          have r1 := blk_cell S3 1
          have r2 := blk_cell S3 2
          have r3 := blk_cell S3 3
          have hno : boxOk xs n = false := by
            simp only [boxOk, decide_eq_false_iff_not]
            rintro ⟨_, h⟩
            rw [h j hlt] at hwin
            cases hwin
          refine bodyPost_ret (v := .tuple #[arr4 0 0 0 0, .bool false]) (by simp [results, Try.results12, go_sem, arr4, r0, r1, r2, r3]) rfl ⟨by unfold Btuple; rw [hno]; rfl, ?_⟩
          exact kept_set (kept_set (kept_set (kept_set (kept_trans hk (kept_trans kp hk1)) (p := ⟨w.heap.size, 0, none⟩) (Nat.le_refl _) _) (p := ⟨w.heap.size, 1, none⟩) (Nat.le_refl _) _) (p := ⟨w.heap.size, 2, none⟩) (Nat.le_refl _) _) (p := ⟨w.heap.size, 3, none⟩) (Nat.le_refl _) _
        · go_wp2_with fail
          refine (within_c (X xs j) (Y xs j) _).mono ?_
          rintro e w1 ⟨rfl, hk1⟩
          rw [hwin]
          replace ho := blk_kept (kept_trans kp hk1) ho
          replace hz := blk_kept (kept_trans kp hk1) hz
          replace hp := blk_kept hk1 hp
          have p0 : _ = some (Value.int .i64 (X xs j)) := blk_cell hp 0
          have p1 : _ = some (Value.int .i64 (Y xs j)) := blk_cell hp 1
          have o0 : _ = some (Value.int .i64 (lo (X xs) j)) := blk_cell ho 0
          have o1 : _ = some (Value.int .i64 (lo (Y xs) j)) := blk_cell ho 1
          have o2 : _ = some (Value.int .i64 (hi (X xs) j)) := blk_cell ho 2
          have o3 : _ = some (Value.int .i64 (hi (Y xs) j)) := blk_cell ho 3
          have of0 := blk_frozen ho 0
          have of1 := blk_frozen ho 1
          have of2 := blk_frozen ho 2
          have of3 := blk_frozen ho 3
          clear c0 c1
          go_wp2_with fail
          have S0 : (w1.setCell ⟨w.heap.size + 1, 0, none⟩ (.int .i64 (min (lo (X xs) j) (X xs j)))).heap[w.heap.size + 1]? = some (.cells #[.int .i64 (min (lo (X xs) j) (X xs j)), .int .i64 (lo (Y xs) j), .int .i64 (hi (X xs) j), .int .i64 (hi (Y xs) j)] 27 (0, 0)) := blk_set ho 0 _
          have S1 : ((w1.setCell ⟨w.heap.size + 1, 0, none⟩ (.int .i64 (min (lo (X xs) j) (X xs j)))).setCell ⟨w.heap.size + 1, 1, none⟩ (.int .i64 (min (lo (Y xs) j) (Y xs j)))).heap[w.heap.size + 1]? = some (.cells #[.int .i64 (min (lo (X xs) j) (X xs j)), .int .i64 (min (lo (Y xs) j) (Y xs j)), .int .i64 (hi (X xs) j), .int .i64 (hi (Y xs) j)] 27 (0, 0)) := blk_set S0 1 _
          have S2 : (((w1.setCell ⟨w.heap.size + 1, 0, none⟩ (.int .i64 (min (lo (X xs) j) (X xs j)))).setCell ⟨w.heap.size + 1, 1, none⟩ (.int .i64 (min (lo (Y xs) j) (Y xs j)))).setCell ⟨w.heap.size + 1, 2, none⟩ (.int .i64 (max (hi (X xs) j) (X xs j)))).heap[w.heap.size + 1]? = some (.cells #[.int .i64 (min (lo (X xs) j) (X xs j)), .int .i64 (min (lo (Y xs) j) (Y xs j)), .int .i64 (max (hi (X xs) j) (X xs j)), .int .i64 (hi (Y xs) j)] 27 (0, 0)) := blk_set S1 2 _
          have S3 : ((((w1.setCell ⟨w.heap.size + 1, 0, none⟩ (.int .i64 (min (lo (X xs) j) (X xs j)))).setCell ⟨w.heap.size + 1, 1, none⟩ (.int .i64 (min (lo (Y xs) j) (Y xs j)))).setCell ⟨w.heap.size + 1, 2, none⟩ (.int .i64 (max (hi (X xs) j) (X xs j)))).setCell ⟨w.heap.size + 1, 3, none⟩ (.int .i64 (max (hi (Y xs) j) (Y xs j)))).heap[w.heap.size + 1]? = some (.cells #[.int .i64 (min (lo (X xs) j) (X xs j)), .int .i64 (min (lo (Y xs) j) (Y xs j)), .int .i64 (max (hi (X xs) j) (X xs j)), .int .i64 (max (hi (Y xs) j) (Y xs j))] 27 (0, 0)) := blk_set S2 3 _
          have hne' : w.heap.size ≠ w.heap.size + 1 := by omega
          have hle' : w.heap.size ≤ w.heap.size + 1 := by omega
          refine ⟨⟨j + 1, by omega, by go_num, ?_, S3, ?_, fun q hq => by
            rcases Nat.lt_or_ge q j with h | h
            · exact HQ q h
            · obtain rfl : q = j := by omega
              exact hwin⟩, by simp [intOf]; omega⟩
          · exact blk_far (blk_far (blk_far (blk_far hz (p := ⟨w.heap.size + 1, 0, none⟩) hne' _) (p := ⟨w.heap.size + 1, 1, none⟩) hne' _) (p := ⟨w.heap.size + 1, 2, none⟩) hne' _) (p := ⟨w.heap.size + 1, 3, none⟩) hne' _
          · exact kept_set (kept_set (kept_set (kept_set (kept_trans hk (kept_trans kp hk1)) (p := ⟨w.heap.size + 1, 0, none⟩) hle' _) (p := ⟨w.heap.size + 1, 1, none⟩) hle' _) (p := ⟨w.heap.size + 1, 2, none⟩) hle' _) (p := ⟨w.heap.size + 1, 3, none⟩) hle' _
      · obtain rfl : j = n := by omega
        have hyes : boxOk xs j = true := by
          simp only [boxOk, decide_eq_true_eq]
          exact ⟨hn, HQ⟩
        have HY := Lib.hid hyes
        clear hyes
        have o0 : _ = some (Value.int .i64 (lo (X xs) j)) := blk_cell ho 0
        have o1 : _ = some (Value.int .i64 (lo (Y xs) j)) := blk_cell ho 1
        have o2 : _ = some (Value.int .i64 (hi (X xs) j)) := blk_cell ho 2
        have o3 : _ = some (Value.int .i64 (hi (Y xs) j)) := blk_cell ho 3
        have z0 : _ = some (Value.int .i64 0) := blk_cell hz 0
        have z1 : _ = some (Value.int .i64 0) := blk_cell hz 1
        have z2 : _ = some (Value.int .i64 0) := blk_cell hz 2
        have z3 : _ = some (Value.int .i64 0) := blk_cell hz 3
        have zf0 := blk_frozen hz 0
        have zf1 := blk_frozen hz 1
        have zf2 := blk_frozen hz 2
        have zf3 := blk_frozen hz 3
        go_wp2_with fail
        have S0 : (wr.setCell ⟨w.heap.size, 0, none⟩ (.int .i64 (lo (X xs) j))).heap[w.heap.size]? = some (.cells #[.int .i64 (lo (X xs) j), .int .i64 (0), .int .i64 (0), .int .i64 (0)] 27 (0, 0)) := blk_set hz 0 _
        have S1 : ((wr.setCell ⟨w.heap.size, 0, none⟩ (.int .i64 (lo (X xs) j))).setCell ⟨w.heap.size, 1, none⟩ (.int .i64 (lo (Y xs) j))).heap[w.heap.size]? = some (.cells #[.int .i64 (lo (X xs) j), .int .i64 (lo (Y xs) j), .int .i64 (0), .int .i64 (0)] 27 (0, 0)) := blk_set S0 1 _
        have S2 : (((wr.setCell ⟨w.heap.size, 0, none⟩ (.int .i64 (lo (X xs) j))).setCell ⟨w.heap.size, 1, none⟩ (.int .i64 (lo (Y xs) j))).setCell ⟨w.heap.size, 2, none⟩ (.int .i64 (hi (X xs) j))).heap[w.heap.size]? = some (.cells #[.int .i64 (lo (X xs) j), .int .i64 (lo (Y xs) j), .int .i64 (hi (X xs) j), .int .i64 (0)] 27 (0, 0)) := blk_set S1 2 _
        have S3 : ((((wr.setCell ⟨w.heap.size, 0, none⟩ (.int .i64 (lo (X xs) j))).setCell ⟨w.heap.size, 1, none⟩ (.int .i64 (lo (Y xs) j))).setCell ⟨w.heap.size, 2, none⟩ (.int .i64 (hi (X xs) j))).setCell ⟨w.heap.size, 3, none⟩ (.int .i64 (hi (Y xs) j))).heap[w.heap.size]? = some (.cells #[.int .i64 (lo (X xs) j), .int .i64 (lo (Y xs) j), .int .i64 (hi (X xs) j), .int .i64 (hi (Y xs) j)] 27 (0, 0)) := blk_set S2 3 _
        have r0 := blk_cell S3 0
        have r1 := blk_cell S3 1
        have r2 := blk_cell S3 2
        have r3 := blk_cell S3 3
        refine bodyPost_ret (v := .tuple #[arr4 (lo (X xs) j) (lo (Y xs) j) (hi (X xs) j) (hi (Y xs) j), .bool true]) (by simp [results, Try.results12, go_sem, arr4, r0, r1, r2, r3]) rfl ⟨by unfold Btuple; rw [HY.out]; rfl, ?_⟩
        exact kept_set (kept_set (kept_set (kept_set hk (p := ⟨w.heap.size, 0, none⟩) (Nat.le_refl _) _) (p := ⟨w.heap.size, 1, none⟩) (Nat.le_refl _) _) (p := ⟨w.heap.size, 2, none⟩) (Nat.le_refl _) _) (p := ⟨w.heap.size, 3, none⟩) (Nat.le_refl _) _
end Go.Proofs.Ytkifafdbobhlpaa
