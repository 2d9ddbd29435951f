/-
  Layer 21: the cells of a turned field, in plain Lean.
-/
import Derived.Test.YthbbkmkaopgmdaaWTurnJ
import Derived.Deep.AppendLies
namespace Go.Proofs.Ythbbkmkaopgmdaa
open Go.RowKit
set_option linter.unusedVariables false

theorem lo_is {f : Nat → Int} {n : Nat} {m : Int} (h : ∀ q, q < n → m ≤ f q) {p : Nat} (hp : p < n) (e : f p = m) : lo f n = m := by
  have hn : 0 < n := by omega
  have h1 : ∀ j, j ≤ n → m ≤ lo f j := by
    intro j
    induction j with
    | zero => intro _; exact h 0 hn
    | succ j ih =>
      intro hj
      have a := ih (by omega)
      have b := h j (by omega)
      show m ≤ min (lo f j) (f j)
      omega
  have h2 : ∀ j, p < j → lo f j ≤ m := by
    intro j
    induction j with
    | zero => intro h; omega
    | succ j ih =>
      intro hj
      show min (lo f j) (f j) ≤ m
      rcases Nat.lt_or_ge p j with h' | h'
      · have := ih h'; omega
      · obtain rfl : p = j := by omega
        omega
  have a := h1 n (Nat.le_refl _)
  have b := h2 n hp
  omega
theorem hi_is {f : Nat → Int} {n : Nat} {m : Int} (h : ∀ q, q < n → f q ≤ m) {p : Nat} (hp : p < n) (e : f p = m) : hi f n = m := by
  have hn : 0 < n := by omega
  have h1 : ∀ j, j ≤ n → hi f j ≤ m := by
    intro j
    induction j with
    | zero => intro _; exact h 0 hn
    | succ j ih =>
      intro hj
      have a := ih (by omega)
      have b := h j (by omega)
      show max (hi f j) (f j) ≤ m
      omega
  have h2 : ∀ j, p < j → m ≤ hi f j := by
    intro j
    induction j with
    | zero => intro h; omega
    | succ j ih =>
      intro hj
      show m ≤ max (hi f j) (f j)
      rcases Nat.lt_or_ge p j with h' | h'
      · have := ih h'; omega
      · obtain rfl : p = j := by omega
        omega
  have a := h1 n (Nat.le_refl _)
  have b := h2 n hp
  omega

/-- Columns and rows of the turned field. -/
def wideN (w h : Nat) (k : Int) : Nat := if k % 4 = 1 ∨ k % 4 = 3 then h else w
def highN (w h : Nat) (k : Int) : Nat := if k % 4 = 1 ∨ k % 4 = 3 then w else h
/-- Which cell stands at column x, row y of the turned field. -/
def cellXY (w h : Nat) (k : Int) (x y : Nat) : Nat :=
  if k % 4 = 0 then y * w + x else if k % 4 = 1 then (h - 1 - x) * w + y else if k % 4 = 2 then (h - 1 - y) * w + (w - 1 - x) else x * w + (w - 1 - y)
def cellAt (w h : Nat) (k : Int) (p : Nat) : Nat := cellXY w h k (p % wideN w h k) (p / wideN w h k)
/-- Column and row of cell i in the turned field. -/
def colOf (w h : Nat) (k : Int) (i : Nat) : Nat := if k % 4 = 0 then i % w else if k % 4 = 1 then h - 1 - i / w else if k % 4 = 2 then w - 1 - i % w else i / w
def rowOf (w h : Nat) (k : Int) (i : Nat) : Nat := if k % 4 = 0 then i / w else if k % 4 = 1 then i % w else if k % 4 = 2 then h - 1 - i / w else w - 1 - i % w
def posOf (w h : Nat) (k : Int) (i : Nat) : Nat := rowOf w h k i * wideN w h k + colOf w h k i

theorem divmod {a b c : Nat} (h : b < c) : (a * c + b) / c = a ∧ (a * c + b) % c = b := by
  have hc : 0 < c := by omega
  rw [Nat.add_comm, Nat.add_mul_div_right _ _ hc, Nat.add_mul_mod_self_right, Nat.div_eq_of_lt h, Nat.mod_eq_of_lt h, Nat.zero_add]
  exact ⟨rfl, rfl⟩
theorem div_lt' {w h i : Nat} (hi : i < w * h) : i / w < h := Nat.div_lt_of_lt_mul hi
theorem pos_bd {w h i : Nat} (k : Int) (hw : 0 < w) (hh : 0 < h) (hi : i < w * h) : colOf w h k i < wideN w h k ∧ rowOf w h k i < highN w h k := by
  have a := div_lt' hi
  have b := Nat.mod_lt i hw
  unfold colOf rowOf wideN highN
  generalize i / w = d at *
  generalize i % w = r at *
  have q : k % 4 = 0 ∨ k % 4 = 1 ∨ k % 4 = 2 ∨ k % 4 = 3 := by omega
  rcases q with q | q | q | q <;> simp [q] <;> omega
theorem cell_pos {w h i : Nat} (k : Int) (hw : 0 < w) (hh : 0 < h) (hi : i < w * h) : cellAt w h k (posOf w h k i) = i := by
  obtain ⟨b1, b2⟩ := pos_bd k hw hh hi
  obtain ⟨d1, d2⟩ := divmod (a := rowOf w h k i) b1
  have e := Nat.div_add_mod i w
  have a := div_lt' hi
  have b := Nat.mod_lt i hw
  rw [Nat.mul_comm] at e
  unfold cellAt posOf
  rw [d1, d2]
  clear d1 d2 b1 b2
  unfold cellXY colOf rowOf
  generalize i / w = d at *
  generalize i % w = r at *
  have q : k % 4 = 0 ∨ k % 4 = 1 ∨ k % 4 = 2 ∨ k % 4 = 3 := by omega
  rcases q with q | q | q | q <;> simp only [q, if_true, if_false, show ¬ (1 : Int) = 0 by decide, show ¬ (2 : Int) = 0 by decide, show ¬ (3 : Int) = 0 by decide, show ¬ (2 : Int) = 1 by decide, show ¬ (3 : Int) = 1 by decide, show ¬ (3 : Int) = 2 by decide]
  · exact e
  · rw [show h - 1 - (h - 1 - d) = d by omega]; exact e
  · rw [show h - 1 - (h - 1 - d) = d by omega, show w - 1 - (w - 1 - r) = r by omega]; exact e
  · rw [show w - 1 - (w - 1 - r) = r by omega]; exact e
theorem size_eq (w h : Nat) (k : Int) : wideN w h k * highN w h k = w * h := by
  unfold wideN highN
  split
  · exact Nat.mul_comm _ _
  · rfl
theorem cell_lt {w h p : Nat} (k : Int) (hw : 0 < w) (hh : 0 < h) (hp : p < w * h) : cellAt w h k p < w * h := by
  have hW : 0 < wideN w h k := by unfold wideN; split <;> assumption
  have a : p / wideN w h k < highN w h k := Nat.div_lt_of_lt_mul (by rw [size_eq]; exact hp)
  have b := Nat.mod_lt p hW
  have key : ∀ x y, x < w → y < h → y * w + x < w * h := by
    intro x y hx hy
    have : (y + 1) * w ≤ h * w := Nat.mul_le_mul_right _ hy
    rw [Nat.add_mul, Nat.one_mul] at this
    rw [Nat.mul_comm w h]
    omega
  unfold cellAt
  generalize p % wideN w h k = x at *
  generalize p / wideN w h k = y at *
  clear hp
  revert a b
  unfold wideN highN cellXY
  have q : k % 4 = 0 ∨ k % 4 = 1 ∨ k % 4 = 2 ∨ k % 4 = 3 := by omega
  rcases q with q | q | q | q <;> simp only [q, if_true, if_false, show ¬ (1 : Int) = 0 by decide, show ¬ (2 : Int) = 0 by decide, show ¬ (3 : Int) = 0 by decide, show ¬ (2 : Int) = 1 by decide, show ¬ (3 : Int) = 1 by decide, show ¬ (3 : Int) = 2 by decide, show ¬ (0 : Int) = 1 by decide, show ¬ (0 : Int) = 3 by decide, show ¬ (1 : Int) = 3 by decide, show ¬ (2 : Int) = 3 by decide, or_false, or_true] <;> intro a b <;> exact key _ _ (by omega) (by omega)
theorem colrow_cell {w h p : Nat} (k : Int) (hw : 0 < w) (hh : 0 < h) (hp : p < w * h) : colOf w h k (cellAt w h k p) = p % wideN w h k ∧ rowOf w h k (cellAt w h k p) = p / wideN w h k := by
  have hW : 0 < wideN w h k := by unfold wideN; split <;> assumption
  have a : p / wideN w h k < highN w h k := Nat.div_lt_of_lt_mul (by rw [size_eq]; exact hp)
  have b := Nat.mod_lt p hW
  unfold cellAt
  generalize p % wideN w h k = x at *
  generalize p / wideN w h k = y at *
  revert a b
  unfold wideN highN colOf rowOf cellXY
  have q : k % 4 = 0 ∨ k % 4 = 1 ∨ k % 4 = 2 ∨ k % 4 = 3 := by omega
  rcases q with q | q | q | q <;> simp only [q, if_true, if_false, show ¬ (1 : Int) = 0 by decide, show ¬ (2 : Int) = 0 by decide, show ¬ (3 : Int) = 0 by decide, show ¬ (2 : Int) = 1 by decide, show ¬ (3 : Int) = 1 by decide, show ¬ (3 : Int) = 2 by decide, show ¬ (0 : Int) = 1 by decide, show ¬ (0 : Int) = 3 by decide, show ¬ (1 : Int) = 3 by decide, show ¬ (2 : Int) = 3 by decide, or_false, or_true] <;> intro a b
  · obtain ⟨d1, d2⟩ := divmod (a := y) a; rw [d1, d2]; exact ⟨rfl, rfl⟩
  · obtain ⟨d1, d2⟩ := divmod (a := h - 1 - x) b; rw [d1, d2]; exact ⟨by omega, rfl⟩
  · obtain ⟨d1, d2⟩ := divmod (a := h - 1 - y) (b := w - 1 - x) (c := w) (by omega); rw [d1, d2]; exact ⟨by omega, by omega⟩
  · obtain ⟨d1, d2⟩ := divmod (a := x) (b := w - 1 - y) (c := w) (by omega); rw [d1, d2]; exact ⟨rfl, by omega⟩
theorem pos_cell {w h p : Nat} (k : Int) (hw : 0 < w) (hh : 0 < h) (hp : p < w * h) : posOf w h k (cellAt w h k p) = p := by
  have e := Nat.div_add_mod p (wideN w h k)
  rw [Nat.mul_comm] at e
  have key := colrow_cell k hw hh hp
  unfold posOf
  rw [key.1, key.2]
  exact e
theorem wide_pos {w h : Nat} (k : Int) (hw : 0 < w) (hh : 0 < h) : 0 < wideN w h k ∧ 0 < highN w h k := by
  unfold wideN highN; split <;> exact ⟨by assumption, by assumption⟩
theorem wide_le {w h m : Nat} (k : Int) (hw : w ≤ m) (hh : h ≤ m) : wideN w h k ≤ m ∧ highN w h k ≤ m := by
  unfold wideN highN; split <;> exact ⟨by assumption, by assumption⟩
end Go.Proofs.Ythbbkmkaopgmdaa
/-
  Layer 21: a field's points, turned and moved: each stands at its column and row.
-/
namespace Go.Proofs.Ythbbkmkaopgmdaa
open Go.RowKit
set_option linter.unusedVariables false

/-- The points of a field of w columns, cell by cell. -/
def gridv (w n : Nat) : List Int := flat n (fun i => ((i % w : Nat) : Int)) (fun i => ((i / w : Nat) : Int))
theorem grid_at (w : Nat) {n i : Nat} (hi : i < n) : X (gridv w n) i = ((i % w : Nat) : Int) ∧ Y (gridv w n) i = ((i / w : Nat) : Int) := flat_at (fun i => ((i % w : Nat) : Int)) (fun i => ((i / w : Nat) : Int)) n i hi
theorem grid_ok {w h : Nat} (hw : 0 < w) (hh : 0 < h) (hw2 : w ≤ 64) (hh2 : h ≤ 64) : boxOk (gridv w (w * h)) (w * h) = true := by
  simp only [boxOk, decide_eq_true_eq]
  refine ⟨Nat.mul_pos hw hh, fun i hi => ?_⟩
  obtain ⟨e1, e2⟩ := grid_at w hi
  rw [e1, e2]
  have a := div_lt' hi
  have b := Nat.mod_lt i hw
  generalize i / w = d at *
  generalize i % w = r at *
  simp [win, inb]
  omega
theorem grid_rot {w h : Nat} (k : Int) {i : Nat} (hi : i < w * h) : X (rotv (gridv w (w * h)) k (w * h)) i = rx ((i % w : Nat) : Int) ((i / w : Nat) : Int) k ∧ Y (rotv (gridv w (w * h)) k (w * h)) i = ry ((i % w : Nat) : Int) ((i / w : Nat) : Int) k := by
  obtain ⟨e1, e2⟩ := grid_at w hi
  obtain ⟨e3, e4⟩ := flat_at (fun j => rx (X (gridv w (w * h)) j) (Y (gridv w (w * h)) j) k) (fun j => ry (X (gridv w (w * h)) j) (Y (gridv w (w * h)) j) k) (w * h) i hi
  unfold rotv
  rw [e3, e4, e1, e2]
  exact ⟨rfl, rfl⟩
theorem last_col {w h : Nat} (hw : 0 < w) (hh : 0 < h) : w - 1 < w * h ∧ (w - 1) % w = w - 1 := ⟨by have := Nat.mul_le_mul_left w (show 1 ≤ h from hh); omega, Nat.mod_eq_of_lt (by omega)⟩
theorem last_row {w h : Nat} (hw : 0 < w) (hh : 0 < h) : (h - 1) * w < w * h ∧ (h - 1) * w / w = h - 1 := by
  refine ⟨?_, Nat.mul_div_cancel _ hw⟩
  rw [Nat.mul_comm w h]
  exact Nat.mul_lt_mul_of_pos_right (by omega) hw
theorem grid_lo {w h : Nat} (k : Int) (hw : 0 < w) (hh : 0 < h) : lo (X (rotv (gridv w (w * h)) k (w * h))) (w * h) = (if k % 4 = 1 then -((h : Int) - 1) else if k % 4 = 2 then -((w : Int) - 1) else 0) ∧ lo (Y (rotv (gridv w (w * h)) k (w * h))) (w * h) = (if k % 4 = 2 then -((h : Int) - 1) else if k % 4 = 3 then -((w : Int) - 1) else 0) := by
  have h0 : 0 < w * h := Nat.mul_pos hw hh
  obtain ⟨c1, c2⟩ := last_col hw hh
  obtain ⟨r1, r2⟩ := last_row hw hh
  have at_ := fun {i : Nat} (hi : i < w * h) => grid_rot k hi
  have bd : ∀ i, i < w * h → i / w < h ∧ i % w < w := fun i hi => ⟨div_lt' hi, Nat.mod_lt i hw⟩
  have q : k % 4 = 0 ∨ k % 4 = 1 ∨ k % 4 = 2 ∨ k % 4 = 3 := by omega
  rcases q with q | q | q | q
  · refine ⟨lo_is (p := 0) (fun i hi => ?_) h0 ?_, lo_is (p := 0) (fun i hi => ?_) h0 ?_⟩
    · rw [(at_ hi).1]; have := bd i hi; generalize i % w = r at *; generalize i / w = d at *; simp [rx, q] <;> omega
    · rw [(at_ h0).1]; simp [rx, q]
    · rw [(at_ hi).2]; have := bd i hi; generalize i % w = r at *; generalize i / w = d at *; simp [ry, q] <;> omega
    · rw [(at_ h0).2]; simp [ry, q]
  · refine ⟨lo_is (p := (h - 1) * w) (fun i hi => ?_) r1 ?_, lo_is (p := 0) (fun i hi => ?_) h0 ?_⟩
    · rw [(at_ hi).1]; have := bd i hi; simp only [rx, q]; generalize i / w = d at *; simp; omega
    · rw [(at_ r1).1, r2]; simp only [rx, q]; simp; omega
    · rw [(at_ hi).2]; have := bd i hi; generalize i % w = r at *; generalize i / w = d at *; simp [ry, q] <;> omega
    · rw [(at_ h0).2]; simp [ry, q]
  · refine ⟨lo_is (p := w - 1) (fun i hi => ?_) c1 ?_, lo_is (p := (h - 1) * w) (fun i hi => ?_) r1 ?_⟩
    · rw [(at_ hi).1]; have := bd i hi; simp only [rx, q]; generalize i % w = d at *; simp; omega
    · rw [(at_ c1).1, c2]; simp only [rx, q]; simp; omega
    · rw [(at_ hi).2]; have := bd i hi; simp only [ry, q]; generalize i / w = d at *; simp; omega
    · rw [(at_ r1).2, r2]; simp only [ry, q]; simp; omega
  · refine ⟨lo_is (p := 0) (fun i hi => ?_) h0 ?_, lo_is (p := w - 1) (fun i hi => ?_) c1 ?_⟩
    · rw [(at_ hi).1]; have := bd i hi; generalize i % w = r at *; generalize i / w = d at *; simp [rx, q] <;> omega
    · rw [(at_ h0).1]; simp [rx, q]
    · rw [(at_ hi).2]; have := bd i hi; simp only [ry, q]; generalize i % w = d at *; simp; omega
    · rw [(at_ c1).2, c2]; simp only [ry, q]; simp; omega
theorem grid_pts {w h : Nat} (k : Int) (hw : 0 < w) (hh : 0 < h) (hw2 : w ≤ 64) (hh2 : h ≤ 64) {i : Nat} (hi : i < w * h) : X (ptsv (gridv w (w * h)) k (w * h)) i = (colOf w h k i : Nat) ∧ Y (ptsv (gridv w (w * h)) k (w * h)) i = (rowOf w h k i : Nat) := by
  obtain ⟨e1, e2⟩ := grid_at w hi
  obtain ⟨l1, l2⟩ := grid_lo k hw hh
  have f := flat_at (fun j => rx (X (gridv w (w * h)) j) (Y (gridv w (w * h)) j) k - lo (X (rotv (gridv w (w * h)) k (w * h))) (w * h)) (fun j => ry (X (gridv w (w * h)) j) (Y (gridv w (w * h)) j) k - lo (Y (rotv (gridv w (w * h)) k (w * h))) (w * h)) (w * h) i hi
  unfold ptsv
  rw [grid_ok hw hh hw2 hh2, if_pos rfl, f.1, f.2, l1, l2, e1, e2]
  have a := div_lt' hi
  have b := Nat.mod_lt i hw
  unfold colOf rowOf rx ry
  generalize i / w = d at *
  generalize i % w = r at *
  clear f e1 e2 l1 l2 hi
  have q : k % 4 = 0 ∨ k % 4 = 1 ∨ k % 4 = 2 ∨ k % 4 = 3 := by omega
  rcases q with q | q | q | q <;> simp [q] <;> omega
theorem ptsv_length (xs : List Int) (k : Int) (n : Nat) : (ptsv xs k n).length = 2 * (if boxOk xs n then n else 0) := by
  unfold ptsv
  split
  · exact flat_length _ _ _
  · rfl
theorem grid_ok2 {w h : Nat} (k : Int) (hw : 0 < w) (hh : 0 < h) (hw2 : w ≤ 64) (hh2 : h ≤ 64) : boxOk (ptsv (gridv w (w * h)) k (w * h)) (w * h) = true := by
  simp only [boxOk, decide_eq_true_eq]
  refine ⟨Nat.mul_pos hw hh, fun i hi => ?_⟩
  obtain ⟨e1, e2⟩ := grid_pts k hw hh hw2 hh2 hi
  obtain ⟨b1, b2⟩ := pos_bd k hw hh hi
  obtain ⟨c1, c2⟩ := wide_le k hw2 hh2
  rw [e1, e2]
  simp [win, inb]
  omega
theorem grid_hi {w h : Nat} (k : Int) (hw : 0 < w) (hh : 0 < h) (hw2 : w ≤ 64) (hh2 : h ≤ 64) : hi (X (ptsv (gridv w (w * h)) k (w * h))) (w * h) = (wideN w h k : Int) - 1 ∧ hi (Y (ptsv (gridv w (w * h)) k (w * h))) (w * h) = (highN w h k : Int) - 1 := by
  obtain ⟨p1, p2⟩ := wide_pos k hw hh
  have hs := size_eq w h k
  have g1 : wideN w h k - 1 < w * h := by have := Nat.mul_le_mul_left (wideN w h k) (show 1 ≤ highN w h k from p2); omega
  have g2 : (highN w h k - 1) * wideN w h k < w * h := by
    rw [← hs, Nat.mul_comm (wideN w h k)]
    exact Nat.mul_lt_mul_of_pos_right (by omega) p1
  have at_ := fun {i : Nat} (hi : i < w * h) => grid_pts k hw hh hw2 hh2 hi
  constructor
  · refine hi_is (p := cellAt w h k (wideN w h k - 1)) (fun i hi => ?_) (cell_lt k hw hh g1) ?_
    · rw [(at_ hi).1]; have := (pos_bd k hw hh hi).1; omega
    · rw [(at_ (cell_lt k hw hh g1)).1, (colrow_cell k hw hh g1).1, Nat.mod_eq_of_lt (by omega)]; omega
  · refine hi_is (p := cellAt w h k ((highN w h k - 1) * wideN w h k)) (fun i hi => ?_) (cell_lt k hw hh g2) ?_
    · rw [(at_ hi).2]; have := (pos_bd k hw hh hi).2; omega
    · rw [(at_ (cell_lt k hw hh g2)).2, (colrow_cell k hw hh g2).2, Nat.mul_div_cancel _ p1]; omega
/-- The turned field, cell by cell. -/
def cellsv (w h : Nat) (k : Int) : List Int := mk (w * h) fun p => (cellAt w h k p : Nat)
/-- The same, where the cells from j on are not laid yet. -/
def cellsTo (w h : Nat) (k : Int) (j : Nat) : List Int := mk (w * h) fun p => if cellAt w h k p < j then ((cellAt w h k p : Nat) : Int) else 0
theorem mk_set21 {n : Nat} (f : Nat → Int) {j : Nat} (hj : j < n) (u : Int) : (mk n f).set j u = mk n fun p => if p = j then u else f p := by
  refine List.ext_getElem (by simp [mk]) fun i h1 h2 => ?_
  rw [List.getElem_set]
  simp only [mk, List.getElem_map, List.getElem_range]
  by_cases h : j = i
  · rw [if_pos h, if_pos h.symm]
  · rw [if_neg h, if_neg (Ne.symm h)]
theorem cellsTo_zero (w h : Nat) (k : Int) : cellsTo w h k 0 = mk (w * h) fun _ => 0 := mk_congr fun p _ => by simp
theorem cellsTo_all {w h : Nat} (k : Int) (hw : 0 < w) (hh : 0 < h) : cellsTo w h k (w * h) = cellsv w h k := mk_congr fun p hp => by rw [if_pos (cell_lt k hw hh hp)]
theorem posOf_lt {w h i : Nat} (k : Int) (hw : 0 < w) (hh : 0 < h) (hi : i < w * h) : posOf w h k i < w * h := by
  obtain ⟨b1, b2⟩ := pos_bd k hw hh hi
  rw [← size_eq w h k]
  unfold posOf
  have : (rowOf w h k i + 1) * wideN w h k ≤ highN w h k * wideN w h k := Nat.mul_le_mul_right _ b2
  rw [Nat.add_mul, Nat.one_mul, Nat.mul_comm (highN w h k)] at this
  omega
theorem cellsTo_set {w h : Nat} (k : Int) (hw : 0 < w) (hh : 0 < h) {j : Nat} (hj : j < w * h) : (cellsTo w h k j).set (posOf w h k j) j = cellsTo w h k (j + 1) := by
  unfold cellsTo
  rw [mk_set21 _ (posOf_lt k hw hh hj)]
  refine mk_congr fun p hp => ?_
  by_cases h1 : p = posOf w h k j
  · rw [if_pos h1, h1, cell_pos k hw hh hj, if_pos (by omega)]
  · rw [if_neg h1]
    have : cellAt w h k p ≠ j := fun e => h1 (by rw [← e, pos_cell k hw hh hp])
    by_cases h2 : cellAt w h k p < j
    · rw [if_pos h2, if_pos (by omega)]
    · rw [if_neg h2, if_neg (by omega)]
end Go.Proofs.Ythbbkmkaopgmdaa
/-
  Layer 21 (turn): the cells of a turned field.
-/
namespace Go.Proofs.Ythbbkmkaopgmdaa
open Go.RowKit BG
attribute [local go_sem ↓] Go.wp_at_zero Go.wp_at_succ
set_option linter.unusedVariables false

theorem Own2.less {base base' n : Nat} {w : World} {v : Value} {xs : List Int} (h : Own2 base w v n xs) (hb : base' ≤ base) : Own2 base' w v n xs := by
  obtain ⟨h1, h2⟩ := h
  refine ⟨h1, ?_⟩
  rcases h2 with h2 | ⟨g, cap, cur, hv, hg, r⟩
  · exact .inl h2
  · exact .inr ⟨g, cap, cur, hv, Nat.le_trans hb hg, r⟩
theorem mk_zero (n : Nat) : (mk n fun _ => 0).map (Value.int .i64) = List.replicate n (Value.int .i64 0) := by
  rw [List.eq_replicate_iff]
  refine ⟨by simp [mk], fun b hb => ?_⟩
  obtain ⟨x, hx, rfl⟩ := List.mem_map.1 hb
  obtain ⟨_, _, rfl⟩ := List.mem_map.1 hx
  rfl
def fieldOk (a b : Int) : Bool := decide (1 ≤ a ∧ a ≤ 64 ∧ 1 ≤ b ∧ b ≤ 64)
theorem field_cases {a b : Int} (h : fieldOk a b = false) : a < 1 ∨ (1 ≤ a ∧ 64 < a) ∨ (1 ≤ a ∧ a ≤ 64 ∧ b < 1) ∨ (1 ≤ a ∧ a ≤ 64 ∧ 1 ≤ b ∧ 64 < b) := by
  simp only [fieldOk, decide_eq_false_iff_not] at h; omega
theorem info_i64 : (Try.prog.info? 3).map (fun i => (i.zero, i.size, i.bytes)) = some (some (.int .i64 0), 1, 8) := by kernel_rfl
set_option maxRecDepth 100000 in
theorem cells_no (a b k : Int) (hok : fieldOk a b = false) (w : World) : Calls Try.prog 23 #[.int .i64 a, .int .i64 b, .int .i64 k] w (Ret (.tuple #[.slice none 0 0, .int .i64 0, .int .i64 0, .bool false]) w) := by
  rcases field_cases hok with h | h | h | h
  · have gl : decide (a < 1) = true := decide_eq_true (by omega)
    clear hok h
    go_enter Try.func23, Try.ntmps23
    go_wp2_with fail
    exact bodyPost_ret (v := .tuple #[.slice none 0 0, .int .i64 0, .int .i64 0, .bool false]) (by simp [results, Try.results23, go_sem]) rfl ⟨rfl, kept_refl _⟩
  · have g1 : decide (a < 1) = false := decide_eq_false (by omega)
    have gl : decide (64 < a) = true := decide_eq_true (by omega)
    clear hok h
    go_enter Try.func23, Try.ntmps23
    go_wp2_with fail
    exact bodyPost_ret (v := .tuple #[.slice none 0 0, .int .i64 0, .int .i64 0, .bool false]) (by simp [results, Try.results23, go_sem]) rfl ⟨rfl, kept_refl _⟩
  · have g1 : decide (a < 1) = false := decide_eq_false (by omega)
    have g2 : decide (64 < a) = false := decide_eq_false (by omega)
    have gl : decide (b < 1) = true := decide_eq_true (by omega)
    clear hok h
    go_enter Try.func23, Try.ntmps23
    go_wp2_with fail
    exact bodyPost_ret (v := .tuple #[.slice none 0 0, .int .i64 0, .int .i64 0, .bool false]) (by simp [results, Try.results23, go_sem]) rfl ⟨rfl, kept_refl _⟩
  · have g1 : decide (a < 1) = false := decide_eq_false (by omega)
    have g2 : decide (64 < a) = false := decide_eq_false (by omega)
    have g3 : decide (b < 1) = false := decide_eq_false (by omega)
    have gl : decide (64 < b) = true := decide_eq_true (by omega)
    clear hok h
    go_enter Try.func23, Try.ntmps23
    go_wp2_with fail
    exact bodyPost_ret (v := .tuple #[.slice none 0 0, .int .i64 0, .int .i64 0, .bool false]) (by simp [results, Try.results23, go_sem]) rfl ⟨rfl, kept_refl _⟩
set_option maxRecDepth 100000 in
theorem rcells_no (a b k : Int) (hok : fieldOk a b = false) (w : World) : Calls Try.prog 24 #[.int .i64 a, .int .i64 b, .int .i64 k] w (Ret (.tuple #[.slice none 0 0, .int .i64 0, .int .i64 0, .bool false]) w) := by
  rcases field_cases hok with h | h | h | h
  · have gl : decide (a < 1) = true := decide_eq_true (by omega)
    clear hok h
    go_enter Try.func24, Try.ntmps24
    go_wp2_with fail
    exact bodyPost_ret (v := .tuple #[.slice none 0 0, .int .i64 0, .int .i64 0, .bool false]) (by simp [results, Try.results24, go_sem]) rfl ⟨rfl, kept_refl _⟩
  · have g1 : decide (a < 1) = false := decide_eq_false (by omega)
    have gl : decide (64 < a) = true := decide_eq_true (by omega)
    clear hok h
    go_enter Try.func24, Try.ntmps24
    go_wp2_with fail
    exact bodyPost_ret (v := .tuple #[.slice none 0 0, .int .i64 0, .int .i64 0, .bool false]) (by simp [results, Try.results24, go_sem]) rfl ⟨rfl, kept_refl _⟩
  · have g1 : decide (a < 1) = false := decide_eq_false (by omega)
    have g2 : decide (64 < a) = false := decide_eq_false (by omega)
    have gl : decide (b < 1) = true := decide_eq_true (by omega)
    clear hok h
    go_enter Try.func24, Try.ntmps24
    go_wp2_with fail
    exact bodyPost_ret (v := .tuple #[.slice none 0 0, .int .i64 0, .int .i64 0, .bool false]) (by simp [results, Try.results24, go_sem]) rfl ⟨rfl, kept_refl _⟩
  · have g1 : decide (a < 1) = false := decide_eq_false (by omega)
    have g2 : decide (64 < a) = false := decide_eq_false (by omega)
    have g3 : decide (b < 1) = false := decide_eq_false (by omega)
    have gl : decide (64 < b) = true := decide_eq_true (by omega)
    clear hok h
    go_enter Try.func24, Try.ntmps24
    go_wp2_with fail
    exact bodyPost_ret (v := .tuple #[.slice none 0 0, .int .i64 0, .int .i64 0, .bool false]) (by simp [results, Try.results24, go_sem]) rfl ⟨rfl, kept_refl _⟩
set_option maxRecDepth 100000 in
theorem cells_yes (m h : Nat) (k : Int) (k1 : -9223372036854775808 ≤ k) (k2 : k ≤ 9223372036854775807) (hw : 0 < m) (hh : 0 < h) (hw2 : m ≤ 64) (hh2 : h ≤ 64) (w : World) : Calls Try.prog 23 #[.int .i64 m, .int .i64 h, .int .i64 k] w fun e w' => ∃ v, e = .returned (.tuple #[v, .int .i64 (wideN m h k : Nat), .int .i64 (highN m h k : Nat), .bool true]) ∧ Own .i64 3 w.heap.size w' v (cellsv m h k) ∧ Kept w w' := by
  have hN : m * h ≤ 4096 := Nat.le_trans (Nat.mul_le_mul hw2 hh2) (by decide)
  have hn0 : 0 < m * h := Nat.mul_pos hw hh
  obtain ⟨i0, hif, hz0, hz1, hz2⟩ := info_parts info_p2
  obtain ⟨i1, hif1, hy0, hy1, hy2⟩ := info_parts info_i64
  have g1 : decide ((m : Int) < 1) = false := decide_eq_false (by omega)
  have g2 : decide (64 < (m : Int)) = false := decide_eq_false (by omega)
  have g3 : decide ((h : Int) < 1) = false := decide_eq_false (by omega)
  have g4 : decide (64 < (h : Int)) = false := decide_eq_false (by omega)
  have hmul : ((m : Int) * (h : Int)) = ((m * h : Nat) : Int) := by rw [Int.natCast_mul]
  generalize hNN : m * h = N at *
  have HN := Lib.hid hNN
  have hz : ¬ (m : Int) = 0 := by omega
  clear hNN
  go_enter Try.func23, Try.ntmps23
  go_wp2_with fail
  clear hmul g1 g2 g3 g4
  go_loopw [10, 36] (fun v i wr => ∃ j : Nat, j ≤ N ∧ i = .int .i64 j ∧ Own2 w.heap.size wr v j (gridv m j) ∧ Kept w wr) (fun _ i _ => N - (intOf i).toNat)
  case atStart => exact ⟨0, Nat.zero_le _, rfl, Own2.nil _ _, kept_refl _⟩
  case round =>
    obtain ⟨j, hj, rfl, hown, hk⟩ := hrel
    by_cases hlt : j < N
    · obtain ⟨r, hr⟩ : ∃ r : Int, r = ((j % m : Nat) : Int) := ⟨_, rfl⟩
      obtain ⟨d, hd⟩ : ∃ d : Int, d = ((j / m : Nat) : Int) := ⟨_, rfl⟩
      have e1 : (j : Int).tmod (m : Int) = r := hr.symm
      have e2 : (j : Int).tdiv (m : Int) = d := hd.symm
      have e3 : (j : Int) % (m : Int) = r := by rw [hr, Int.natCast_emod]
      have e4 : (j : Int) / (m : Int) = d := by rw [hd, Int.natCast_ediv]
      have hz' : ¬ m = 0 := by omega
      have b1 : 0 ≤ d := by rw [hd]; exact Int.natCast_nonneg _
      have b2 : d ≤ 4096 := by rw [hd]; have := Nat.div_le_self j m; omega
      have hwd : IntKind.i64.wrap d = d := by simp [IntKind.wrap, IntKind.signed, IntKind.bits]; omega
      have HR := Lib.hid hr
      have HD := Lib.hid hd
      clear hr hd
      unfold Own2 at hown
      have hbase := hk.size
      go_wp2_with fail
      go_region_held3 (fun _ => True) (trivial) ((refine step_append_lies _ (by rfl) _ _ _ (by rfl) w.heap.size 53 i0 _ 2 16 Try.underlying35 hif hz0 hz1 hz2 rfl (by omega) _ j _ (by rfl) ((World.ownsRow.alloc hown _).drew) ⟨wr.heap.size, 0, none⟩ 1 1 [.int .i64 r, .int .i64 d] (by rfl) (by rfl) (World.news_of_block (cs := #[.int .i64 r, .int .i64 d]) (t := 53) (fr := (0, 0)) (heap_alloc_new wr _)) (by simp [Value.oneCell']) (by omega) (by unfold maxLen; omega) (by omega) (by simp; omega) (wr.heap.size + 1) (by simp) ?_; intro g cap w1 hown1 hgrow hat hlt'))
      have R : Own2 w.heap.size w1 (.slice (some ⟨g, 0, none⟩) (j + 1) cap) (j + 1) (gridv m (j + 1)) := by
        unfold Own2 gridv
        rw [flat_succ, List.map_append, ← HR.out, ← HD.out]
        exact hown1
      have K := kept_grown (kept_drew (kept_alloc hk _)) ((World.ownsRow.alloc hown _).drew) (Nat.le_refl _) hgrow
      clear hown1 hgrow hown hat hlt' e1 e2 e3 e4
      go_wp2_with fail
      exact ⟨⟨j + 1, by omega, by go_num, R, K⟩, by simp [intOf]; omega⟩
    · obtain rfl : j = N := by omega
      obtain ⟨A, c, rfl, hl, hrd⟩ := hown.rd (by omega)
      have P1 := points_c A c (gridv m j) j hl k k1 k2 (by omega) wr hrd
      have gok : boxOk (gridv m j) j = true := HN.out ▸ grid_ok hw hh hw2 hh2
      rw [gok, if_pos rfl] at P1
      go_wp2_with fail
      refine P1.mono ?_
      rintro e w2 ⟨v, rfl, hown2, hk2⟩
      obtain ⟨g, c2, rfl, hl2, hr2⟩ := Own2.pos hown2 hn0 (by omega)
      have BX := box_c (some ⟨g, 0, none⟩) c2 (ptsv (gridv m j) k j) j hl2 w2 hr2
      have GH : hi (X (ptsv (gridv m j) k j)) j = (wideN m h k : Int) - 1 ∧ hi (Y (ptsv (gridv m j) k j)) j = (highN m h k : Int) - 1 := HN.out ▸ grid_hi k hw hh hw2 hh2
      have gok2 : boxOk (ptsv (gridv m j) k j) j = true := HN.out ▸ grid_ok2 k hw hh hw2 hh2
      unfold Btuple at BX
      rw [gok2] at BX
      simp only [onlyIf, if_true] at BX
      rw [GH.1, GH.2] at BX
      clear GH P1 gok gok2 hrd hl
      generalize lo (X (ptsv (gridv m j) k j)) j = z1 at *
      generalize lo (Y (ptsv (gridv m j) k j)) j = z2 at *
      have wl := wide_le k hw2 hh2
      generalize hW : wideN m h k = W at *
      generalize hH : highN m h k = H at *
      have HW := Lib.hid hW
      have HH := Lib.hid hH
      clear hW hH
      have hmul : ((m : Int) * (h : Int)) = (j : Int) := by have := HN.out; rw [← this, Int.natCast_mul]
      go_wp2_with fail
      refine BX.mono ?_
      rintro e w3 ⟨rfl, hk3⟩
      replace hown2 : Own2 w.heap.size w3 (.slice (some ⟨g, 0, none⟩) j c2) j (ptsv (gridv m j) k j) := (hown2.kept hk3).less hk.size
      have hg3 := (World.ownsRow.lt hown2 g rfl).2
      have hk' := kept_trans hk (kept_trans hk2 hk3)
      clear BX hk2 hk3 hr2 hown
      go_wp2_with fail
      go_quiet (fail)
      go_wp2_with (refine wpList_make_full _ rfl (.tmp 69) (.tmp 69) 55 rfl w.heap.size 3 i1 (.int .i64 0) 1 Try.underlying55 hif1 hy0 hy1 .i64 .i64 _ _ j rfl rfl (by simp) (by simp) ?b2 ?b3 ?b4 ?_)
      case b2 => rw [hy2]; omega
      case b3 => unfold maxLen; omega
      case b4 => have := hk'.size; simp; omega
      intro w4 hown4 hgrow
      have K4 : Kept w w4 := (kept_drewN (kept_alloc hk' _) nq).grown hgrow (kept_drewN (kept_alloc hk' _) nq).size (fun k h => by cases h)
      replace hown2 : Own2 w.heap.size w4 (.slice (some ⟨g, 0, none⟩) j c2) j (ptsv (gridv m j) k j) := World.ownsRow.kept (hown2.kept (kept_drewN (kept_alloc (kept_refl w3) _) nq)) hgrow (.inr (by simp [Value.ownBlock]))
      rw [toList_madeCells_one] at hown4
      have hown5 : w4.ownsRow w.heap.size 3 1 (.slice (some ⟨w3.heap.size + 1, 0, none⟩) j j) j ((cellsTo m h k 0).map (Value.int .i64)) := by
        rw [cellsTo_zero, HN.out]
        rw [mk_zero]; exact hown4
      have hgg : g ≠ w3.heap.size + 1 := by omega
      clear hg3
      clear hown4 hgrow hk'
      generalize w3.heap.size + 1 = g2 at *
      go_wp2_with fail
      go_loopw [73] (fun i wr => ∃ q : Nat, q ≤ j ∧ i = .int .i64 q ∧ wr.ownsRow w.heap.size 3 1 (.slice (some ⟨g2, 0, none⟩) j j) j ((cellsTo m h k q).map (Value.int .i64)) ∧ Own2 w.heap.size wr (.slice (some ⟨g, 0, none⟩) j c2) j (ptsv (gridv m j) k j) ∧ Kept w wr) (fun i _ => j - (intOf i).toNat)
      case atStart => exact ⟨0, Nat.zero_le _, rfl, hown5, hown2, K4⟩
      case round =>
        clear hown5 hown2 K4 hk
        obtain ⟨q, hq, rfl, hown, hown2, hk⟩ := hrel
        by_cases hlt : q < j
        · have hN' : q < m * h := by have := HN.out; omega
          have GP : X (ptsv (gridv m j) k j) q = (colOf m h k q : Nat) ∧ Y (ptsv (gridv m j) k j) q = (rowOf m h k q : Nat) := by
            have := grid_pts k hw hh hw2 hh2 hN'
            rwa [HN.out] at this
          have hl3 : (ptsv (gridv m j) k j).length = 2 * j := by have := hown2.1; rw [List.length_map] at this; omega
          obtain ⟨c0, c1⟩ := hown2.cell hl3 hlt
          rw [GP.1] at c0
          rw [GP.2] at c1
          have hpos := posOf_lt k hw hh hN'
          rw [HN.out] at hpos
          have hset := cellsTo_set k hw hh hN'
          have hpe : ((rowOf m h k q : Nat) : Int) * (W : Int) + ((colOf m h k q : Nat) : Int) = ((posOf m h k q : Nat) : Int) := by
            unfold posOf; rw [HW.out, Int.natCast_add, Int.natCast_mul]
          have hb2 := posOf_lt k hw hh hN'
          have hownA := World.ownsRow.alloc hown (.cells #[.int .i64 ((colOf m h k q : Nat) : Int), .int .i64 ((rowOf m h k q : Nat) : Int)] 53)
          have hown2A : Own2 _ _ _ _ _ := World.ownsRow.alloc hown2 (.cells #[.int .i64 ((colOf m h k q : Nat) : Int), .int .i64 ((rowOf m h k q : Nat) : Int)] 53)
          have hkA := kept_alloc hk (.cells #[.int .i64 ((colOf m h k q : Nat) : Int), .int .i64 ((rowOf m h k q : Nat) : Int)] 53)
          have d0 := World.ownsRow.cellAt hownA (posOf m h k q) (by omega)
          have hlen : (cellsTo m h k q).length = j := by unfold cellsTo; rw [mk_length, HN.out]
          rw [List.getElem?_map, List.getElem?_eq_getElem (by omega), Option.map_some] at d0
          have f0 := World.ownsRow.frozenAt hownA (posOf m h k q)
          have S := World.ownsRow.stored hownA (posOf m h k q) (.int .i64 (q : Int))
          rw [← List.map_set, hset] at S
          generalize (cellsTo m h k q)[posOf m h k q]'(by omega) = old at *
          generalize posOf m h k q = pos at *
          generalize hro : rowOf m h k q = ro at *
          generalize hco : colOf m h k q = co at *
          have hpb := (pos_bd k hw hh hN')
          rw [HW.out, HH.out, hro, hco] at hpb
          have ea : (⟨g2, 0, none⟩ : Addr).add pos = ⟨g2, pos, none⟩ := by unfold Addr.add; split <;> simp_all
          have eb : (⟨g, 0, none⟩ : Addr).add (q * 2) = ⟨g, q * 2, none⟩ := by unfold Addr.add; split <;> simp_all
          clear hro hco GP hl3 hN' hset hb2 hlen
          have hrw : ((ro : Nat) : Int) * (W : Int) ≤ 4096 := by
            have : 0 ≤ ((co : Nat) : Int) := Int.natCast_nonneg _
            omega
          have hrn : 0 ≤ ((ro : Nat) : Int) * (W : Int) := Int.mul_nonneg (Int.natCast_nonneg _) (Int.natCast_nonneg _)
          go_wp2_with fail
          exact ⟨⟨q + 1, by omega, by go_num, S.1, World.ownsRow.kept hown2A S.2 (.inr (by simp [Value.ownBlock, hgg])), kept_grown hkA hownA (Nat.le_refl _) S.2⟩, by simp [intOf]; omega⟩
        · obtain rfl : q = j := by omega
          have e := cellsTo_all k hw hh
          rw [HN.out] at e
          rw [e] at hown
          clear e
          go_wp2_with fail
          have hOwn : Own .i64 3 w.heap.size wr (.slice (some ⟨g2, 0, none⟩) q q) (cellsv m h k) := by
            have hl : (cellsv m h k).length = q := by unfold cellsv; rw [mk_length, HN.out]
            unfold Own
            rw [hl]
            exact hown
          exact bodyPost_ret (v := .tuple #[.slice (some ⟨g2, 0, none⟩) q q, .int .i64 (W : Int), .int .i64 (H : Int), .bool true]) (by simp [results, Try.results23, go_sem]) rfl ⟨_, by rw [HW.out, HH.out], hOwn, hk⟩
end Go.Proofs.Ythbbkmkaopgmdaa
/-
  Layer 21 (turn): the cells of a turned field, by the document.
-/
namespace Go.Proofs.Ythbbkmkaopgmdaa
open Go.RowKit BG
attribute [local go_sem ↓] Go.wp_at_zero Go.wp_at_succ
set_option linter.unusedVariables false

theorem mul_bd64 (a b : Int) (h0 : 0 ≤ a) (h1 : a ≤ 64) (h2 : 0 ≤ b) (h3 : b ≤ 64) : 0 ≤ a * b ∧ a * b ≤ 4096 := ⟨Int.mul_nonneg h0 h2, by have := Int.mul_le_mul h1 h3 h2 (by decide); omega⟩
/-- The first n cells of the turned field. -/
def firstv (w h : Nat) (k : Int) (n : Nat) : List Int := mk n fun p => ((cellAt w h k p : Nat) : Int)
set_option maxRecDepth 100000 in
set_option maxHeartbeats 2000000 in
theorem rcells_yes (m h : Nat) (k : Int) (hw : 0 < m) (hh : 0 < h) (hw2 : m ≤ 64) (hh2 : h ≤ 64) (w : World) : Calls Try.prog 24 #[.int .i64 m, .int .i64 h, .int .i64 k] w fun e w' => ∃ v, e = .returned (.tuple #[v, .int .i64 (wideN m h k : Nat), .int .i64 (highN m h k : Nat), .bool true]) ∧ Own .i64 3 w.heap.size w' v (cellsv m h k) ∧ Kept w w' := by
  have g1 : decide ((m : Int) < 1) = false := decide_eq_false (by omega)
  have g2 : decide (64 < (m : Int)) = false := decide_eq_false (by omega)
  have g3 : decide ((h : Int) < 1) = false := decide_eq_false (by omega)
  have g4 : decide (64 < (h : Int)) = false := decide_eq_false (by omega)
  obtain ⟨i1, hif1, hy0, hy1, hy2⟩ := info_parts info_i64
  have q : k % 4 = 0 ∨ k % 4 = 1 ∨ k % 4 = 2 ∨ k % 4 = 3 := by omega
  rcases q with q | q | q | q
  · have HW0 : wideN m h k = m := by simp [wideN, q]
    have HH0 : highN m h k = h := by simp [highN, q]
    have CV0 : ∀ x y, cellXY m h k x y = y * m + x := fun x y => by simp [cellXY, q]
    have HW := Lib.hid HW0
    have HH := Lib.hid HH0
    have CV := Lib.hid CV0
    clear HW0 HH0 CV0
    have Q := Lib.hid q
    clear q
    rw [HW.out, HH.out]
    go_enter Try.func24, Try.ntmps24
    go_wp2_with fail
    refine (quarters_c k _).mono ?_
    rw [Q.out]
    rintro e w1 ⟨rfl, rfl⟩
    go_wp2_with fail
    go_loopw [12, 13] (fun v i wr => ∃ y : Nat, y ≤ h ∧ i = .int .i64 y ∧ Own .i64 3 w1.heap.size wr v (firstv m h k (y * m)) ∧ Kept w1 wr) (fun _ i _ => h - (intOf i).toNat)
    case atStart => exact ⟨0, Nat.zero_le _, rfl, by rw [Nat.zero_mul]; exact Own.nil _ _ _ _, kept_refl _⟩
    case round =>
      obtain ⟨y, hy, rfl, hown, hk⟩ := hrel
      by_cases hlt : y < h
      · go_wp2_with fail
        go_loopw [12, 14] (fun v i wr => ∃ x : Nat, x ≤ m ∧ i = .int .i64 x ∧ Own .i64 3 w1.heap.size wr v (firstv m h k (y * m + x)) ∧ Kept w1 wr) (fun _ i _ => m - (intOf i).toNat)
        case atStart => exact ⟨0, Nat.zero_le _, rfl, hown, hk⟩
        case round =>
          clear hown hk
          obtain ⟨x, hx, rfl, hown, hk⟩ := hrel
          by_cases hlx : x < m
          · go_wp2_with fail
            refine (quarters_c k _).mono ?_
            rw [Q.out]
            rintro e w2 ⟨rfl, rfl⟩
            have hown2 : World.ownsRow _ _ _ _ _ _ _ := hown
            have hlen : (firstv m h k (y * m + x)).length = y * m + x := mk_length _ _
            rw [hlen] at hown2
            have hbase := hk.size
            have hm1 : (y : Int) * m ≤ 4096 := (mul_bd64 _ _ (by omega) (by omega) (by omega) (by omega)).2
            have hm0 : 0 ≤ (y : Int) * m := (mul_bd64 _ _ (by omega) (by omega) (by omega) (by omega)).1
            have hNle : y * m + x < 8192 := by have := Nat.mul_le_mul (show y ≤ 64 by omega) (show m ≤ 64 by omega); omega
            clear hown hlen
            go_wp2_with (at_builtin; refine wpList_append_own _ rfl _ _ 55 rfl w1.heap.size 3 i1 (.int .i64 0) 1 8 Try.underlying55 hif1 hy0 hy1 hy2 rfl (by decide) _ _ _ rfl (hown2.alloc _) ⟨w2.heap.size, 0, none⟩ 1 1 [.int .i64 ((y : Int) * m + x)] rfl rfl ?c1 ?c2 ?c3 ?c4 ?c5 ?_)
            case c1 =>
              intro q u hq
              match q, hq with
              | 0, hq => simp at hq; subst hq; simp [Addr.add]
            case c2 => intro u hu; simp at hu; subst hu; rfl
            case c3 => unfold maxLen; omega
            case c4 => omega
            case c5 => simp; omega
            · intro v' w5 hown' hgrow _
              have hv : ((y : Int) * m + x) = ((cellAt m h k (y * m + x) : Nat) : Int) := by
                obtain ⟨d1, d2⟩ := divmod (a := y) hlx
                unfold cellAt
                rw [HW.out, d1, d2, CV.out]
                rw [Int.natCast_add, Int.natCast_mul]
              rw [hv] at hown'
              have R : Own .i64 3 w1.heap.size w5 v' (firstv m h k (y * m + x + 1)) := Own.appended (f := fun p => ((cellAt m h k p : Nat) : Int)) hown'
              have K := kept_grown (kept_alloc hk _) (hown2.alloc _) (Nat.le_refl _) hgrow
              clear hown' hgrow hown2 hv
              go_wp2_with fail
              exact ⟨⟨x + 1, by omega, by go_num, R, K⟩, by simp [intOf]; omega⟩
          · have hxe := Lib.hid (show x = m by omega)
            clear hx
            go_wp2_with fail
            have hxe := hxe.out
            have e : y * m + x = (y + 1) * m := by rw [Nat.add_mul, Nat.one_mul]; omega
            exact ⟨⟨y + 1, by omega, by go_num, by rw [← e]; exact hown, hk⟩, by simp [intOf]; omega⟩
      · have hye : y = h := by omega
        have hs := size_eq m h k
        rw [HW.out, HH.out] at hs
        have HS := Lib.hid hs
        have HE := Lib.hid hye
        clear hs hye
        go_wp2_with fail
        have e : y * m = m * h := by rw [HE.out, Nat.mul_comm]
        rw [e] at hown
        exact bodyPost_ret (v := .tuple #[u12, .int .i64 (m : Int), .int .i64 (h : Int), .bool true]) (by simp [results, Try.results24, go_sem]) rfl ⟨_, rfl, hown, hk⟩
  · have HW0 : wideN m h k = h := by simp [wideN, q]
    have HH0 : highN m h k = m := by simp [highN, q]
    have CV0 : ∀ x y, cellXY m h k x y = (h - 1 - x) * m + y := fun x y => by simp [cellXY, q]
    have HW := Lib.hid HW0
    have HH := Lib.hid HH0
    have CV := Lib.hid CV0
    clear HW0 HH0 CV0
    have Q := Lib.hid q
    clear q
    rw [HW.out, HH.out]
    go_enter Try.func24, Try.ntmps24
    go_wp2_with fail
    refine (quarters_c k _).mono ?_
    rw [Q.out]
    rintro e w1 ⟨rfl, rfl⟩
    go_wp2_with fail
    go_loopw [12, 13] (fun v i wr => ∃ y : Nat, y ≤ m ∧ i = .int .i64 y ∧ Own .i64 3 w1.heap.size wr v (firstv m h k (y * h)) ∧ Kept w1 wr) (fun _ i _ => m - (intOf i).toNat)
    case atStart => exact ⟨0, Nat.zero_le _, rfl, by rw [Nat.zero_mul]; exact Own.nil _ _ _ _, kept_refl _⟩
    case round =>
      obtain ⟨y, hy, rfl, hown, hk⟩ := hrel
      by_cases hlt : y < m
      · go_wp2_with fail
        go_loopw [12, 14] (fun v i wr => ∃ x : Nat, x ≤ h ∧ i = .int .i64 x ∧ Own .i64 3 w1.heap.size wr v (firstv m h k (y * h + x)) ∧ Kept w1 wr) (fun _ i _ => h - (intOf i).toNat)
        case atStart => exact ⟨0, Nat.zero_le _, rfl, hown, hk⟩
        case round =>
          clear hown hk
          obtain ⟨x, hx, rfl, hown, hk⟩ := hrel
          by_cases hlx : x < h
          · go_wp2_with fail
            refine (quarters_c k _).mono ?_
            rw [Q.out]
            rintro e w2 ⟨rfl, rfl⟩
            have hown2 : World.ownsRow _ _ _ _ _ _ _ := hown
            have hlen : (firstv m h k (y * h + x)).length = y * h + x := mk_length _ _
            rw [hlen] at hown2
            have hbase := hk.size
            have hm1 : ((h : Int) - 1 - x) * m ≤ 4096 := (mul_bd64 _ _ (by omega) (by omega) (by omega) (by omega)).2
            have hm0 : 0 ≤ ((h : Int) - 1 - x) * m := (mul_bd64 _ _ (by omega) (by omega) (by omega) (by omega)).1
            have hNle : y * h + x < 8192 := by have := Nat.mul_le_mul (show y ≤ 64 by omega) (show h ≤ 64 by omega); omega
            clear hown hlen
            go_wp2_with (at_builtin; refine wpList_append_own _ rfl _ _ 55 rfl w1.heap.size 3 i1 (.int .i64 0) 1 8 Try.underlying55 hif1 hy0 hy1 hy2 rfl (by decide) _ _ _ rfl (hown2.alloc _) ⟨w2.heap.size, 0, none⟩ 1 1 [.int .i64 (((h : Int) - 1 - x) * m + y)] rfl rfl ?c1 ?c2 ?c3 ?c4 ?c5 ?_)
            case c1 =>
              intro q u hq
              match q, hq with
              | 0, hq => simp at hq; subst hq; simp [Addr.add]
            case c2 => intro u hu; simp at hu; subst hu; rfl
            case c3 => unfold maxLen; omega
            case c4 => omega
            case c5 => simp; omega
            · intro v' w5 hown' hgrow _
              have hv : (((h : Int) - 1 - x) * m + y) = ((cellAt m h k (y * h + x) : Nat) : Int) := by
                obtain ⟨d1, d2⟩ := divmod (a := y) hlx
                unfold cellAt
                rw [HW.out, d1, d2, CV.out]
                rw [Int.natCast_add, Int.natCast_mul, show ((h - 1 - x : Nat) : Int) = (h : Int) - 1 - x by omega]
              rw [hv] at hown'
              have R : Own .i64 3 w1.heap.size w5 v' (firstv m h k (y * h + x + 1)) := Own.appended (f := fun p => ((cellAt m h k p : Nat) : Int)) hown'
              have K := kept_grown (kept_alloc hk _) (hown2.alloc _) (Nat.le_refl _) hgrow
              clear hown' hgrow hown2 hv
              go_wp2_with fail
              exact ⟨⟨x + 1, by omega, by go_num, R, K⟩, by simp [intOf]; omega⟩
          · have hxe := Lib.hid (show x = h by omega)
            clear hx
            go_wp2_with fail
            have hxe := hxe.out
            have e : y * h + x = (y + 1) * h := by rw [Nat.add_mul, Nat.one_mul]; omega
            exact ⟨⟨y + 1, by omega, by go_num, by rw [← e]; exact hown, hk⟩, by simp [intOf]; omega⟩
      · have hye : y = m := by omega
        have hs := size_eq m h k
        rw [HW.out, HH.out] at hs
        have HS := Lib.hid hs
        have HE := Lib.hid hye
        clear hs hye
        go_wp2_with fail
        have e : y * h = m * h := by rw [HE.out, Nat.mul_comm]
        rw [e] at hown
        exact bodyPost_ret (v := .tuple #[u12, .int .i64 (h : Int), .int .i64 (m : Int), .bool true]) (by simp [results, Try.results24, go_sem]) rfl ⟨_, rfl, hown, hk⟩
  · have HW0 : wideN m h k = m := by simp [wideN, q]
    have HH0 : highN m h k = h := by simp [highN, q]
    have CV0 : ∀ x y, cellXY m h k x y = (h - 1 - y) * m + (m - 1 - x) := fun x y => by simp [cellXY, q]
    have HW := Lib.hid HW0
    have HH := Lib.hid HH0
    have CV := Lib.hid CV0
    clear HW0 HH0 CV0
    have Q := Lib.hid q
    clear q
    rw [HW.out, HH.out]
    go_enter Try.func24, Try.ntmps24
    go_wp2_with fail
    refine (quarters_c k _).mono ?_
    rw [Q.out]
    rintro e w1 ⟨rfl, rfl⟩
    go_wp2_with fail
    go_loopw [12, 13] (fun v i wr => ∃ y : Nat, y ≤ h ∧ i = .int .i64 y ∧ Own .i64 3 w1.heap.size wr v (firstv m h k (y * m)) ∧ Kept w1 wr) (fun _ i _ => h - (intOf i).toNat)
    case atStart => exact ⟨0, Nat.zero_le _, rfl, by rw [Nat.zero_mul]; exact Own.nil _ _ _ _, kept_refl _⟩
    case round =>
      obtain ⟨y, hy, rfl, hown, hk⟩ := hrel
      by_cases hlt : y < h
      · go_wp2_with fail
        go_loopw [12, 14] (fun v i wr => ∃ x : Nat, x ≤ m ∧ i = .int .i64 x ∧ Own .i64 3 w1.heap.size wr v (firstv m h k (y * m + x)) ∧ Kept w1 wr) (fun _ i _ => m - (intOf i).toNat)
        case atStart => exact ⟨0, Nat.zero_le _, rfl, hown, hk⟩
        case round =>
          clear hown hk
          obtain ⟨x, hx, rfl, hown, hk⟩ := hrel
          by_cases hlx : x < m
          · go_wp2_with fail
            refine (quarters_c k _).mono ?_
            rw [Q.out]
            rintro e w2 ⟨rfl, rfl⟩
            have hown2 : World.ownsRow _ _ _ _ _ _ _ := hown
            have hlen : (firstv m h k (y * m + x)).length = y * m + x := mk_length _ _
            rw [hlen] at hown2
            have hbase := hk.size
            have hm1 : ((h : Int) - 1 - y) * m ≤ 4096 := (mul_bd64 _ _ (by omega) (by omega) (by omega) (by omega)).2
            have hm0 : 0 ≤ ((h : Int) - 1 - y) * m := (mul_bd64 _ _ (by omega) (by omega) (by omega) (by omega)).1
            have hNle : y * m + x < 8192 := by have := Nat.mul_le_mul (show y ≤ 64 by omega) (show m ≤ 64 by omega); omega
            clear hown hlen
            go_wp2_with (at_builtin; refine wpList_append_own _ rfl _ _ 55 rfl w1.heap.size 3 i1 (.int .i64 0) 1 8 Try.underlying55 hif1 hy0 hy1 hy2 rfl (by decide) _ _ _ rfl (hown2.alloc _) ⟨w2.heap.size, 0, none⟩ 1 1 [.int .i64 (((h : Int) - 1 - y) * m + m - 1 - x)] rfl rfl ?c1 ?c2 ?c3 ?c4 ?c5 ?_)
            case c1 =>
              intro q u hq
              match q, hq with
              | 0, hq => simp at hq; subst hq; simp [Addr.add]
            case c2 => intro u hu; simp at hu; subst hu; rfl
            case c3 => unfold maxLen; omega
            case c4 => omega
            case c5 => simp; omega
            · intro v' w5 hown' hgrow _
              have hv : (((h : Int) - 1 - y) * m + m - 1 - x) = ((cellAt m h k (y * m + x) : Nat) : Int) := by
                obtain ⟨d1, d2⟩ := divmod (a := y) hlx
                unfold cellAt
                rw [HW.out, d1, d2, CV.out]
                rw [Int.natCast_add, Int.natCast_mul, show ((h - 1 - y : Nat) : Int) = (h : Int) - 1 - y by omega]; omega
              rw [hv] at hown'
              have R : Own .i64 3 w1.heap.size w5 v' (firstv m h k (y * m + x + 1)) := Own.appended (f := fun p => ((cellAt m h k p : Nat) : Int)) hown'
              have K := kept_grown (kept_alloc hk _) (hown2.alloc _) (Nat.le_refl _) hgrow
              clear hown' hgrow hown2 hv
              go_wp2_with fail
              exact ⟨⟨x + 1, by omega, by go_num, R, K⟩, by simp [intOf]; omega⟩
          · have hxe := Lib.hid (show x = m by omega)
            clear hx
            go_wp2_with fail
            have hxe := hxe.out
            have e : y * m + x = (y + 1) * m := by rw [Nat.add_mul, Nat.one_mul]; omega
            exact ⟨⟨y + 1, by omega, by go_num, by rw [← e]; exact hown, hk⟩, by simp [intOf]; omega⟩
      · have hye : y = h := by omega
        have hs := size_eq m h k
        rw [HW.out, HH.out] at hs
        have HS := Lib.hid hs
        have HE := Lib.hid hye
        clear hs hye
        go_wp2_with fail
        have e : y * m = m * h := by rw [HE.out, Nat.mul_comm]
        rw [e] at hown
        exact bodyPost_ret (v := .tuple #[u12, .int .i64 (m : Int), .int .i64 (h : Int), .bool true]) (by simp [results, Try.results24, go_sem]) rfl ⟨_, rfl, hown, hk⟩
  · have HW0 : wideN m h k = h := by simp [wideN, q]
    have HH0 : highN m h k = m := by simp [highN, q]
    have CV0 : ∀ x y, cellXY m h k x y = x * m + (m - 1 - y) := fun x y => by simp [cellXY, q]
    have HW := Lib.hid HW0
    have HH := Lib.hid HH0
    have CV := Lib.hid CV0
    clear HW0 HH0 CV0
    have Q := Lib.hid q
    clear q
    rw [HW.out, HH.out]
    go_enter Try.func24, Try.ntmps24
    go_wp2_with fail
    refine (quarters_c k _).mono ?_
    rw [Q.out]
    rintro e w1 ⟨rfl, rfl⟩
    go_wp2_with fail
    go_loopw [12, 13] (fun v i wr => ∃ y : Nat, y ≤ m ∧ i = .int .i64 y ∧ Own .i64 3 w1.heap.size wr v (firstv m h k (y * h)) ∧ Kept w1 wr) (fun _ i _ => m - (intOf i).toNat)
    case atStart => exact ⟨0, Nat.zero_le _, rfl, by rw [Nat.zero_mul]; exact Own.nil _ _ _ _, kept_refl _⟩
    case round =>
      obtain ⟨y, hy, rfl, hown, hk⟩ := hrel
      by_cases hlt : y < m
      · go_wp2_with fail
        go_loopw [12, 14] (fun v i wr => ∃ x : Nat, x ≤ h ∧ i = .int .i64 x ∧ Own .i64 3 w1.heap.size wr v (firstv m h k (y * h + x)) ∧ Kept w1 wr) (fun _ i _ => h - (intOf i).toNat)
        case atStart => exact ⟨0, Nat.zero_le _, rfl, hown, hk⟩
        case round =>
          clear hown hk
          obtain ⟨x, hx, rfl, hown, hk⟩ := hrel
          by_cases hlx : x < h
          · go_wp2_with fail
            refine (quarters_c k _).mono ?_
            rw [Q.out]
            rintro e w2 ⟨rfl, rfl⟩
            have hown2 : World.ownsRow _ _ _ _ _ _ _ := hown
            have hlen : (firstv m h k (y * h + x)).length = y * h + x := mk_length _ _
            rw [hlen] at hown2
            have hbase := hk.size
            have hm1 : (x : Int) * m ≤ 4096 := (mul_bd64 _ _ (by omega) (by omega) (by omega) (by omega)).2
            have hm0 : 0 ≤ (x : Int) * m := (mul_bd64 _ _ (by omega) (by omega) (by omega) (by omega)).1
            have hNle : y * h + x < 8192 := by have := Nat.mul_le_mul (show y ≤ 64 by omega) (show h ≤ 64 by omega); omega
            clear hown hlen
            go_wp2_with (at_builtin; refine wpList_append_own _ rfl _ _ 55 rfl w1.heap.size 3 i1 (.int .i64 0) 1 8 Try.underlying55 hif1 hy0 hy1 hy2 rfl (by decide) _ _ _ rfl (hown2.alloc _) ⟨w2.heap.size, 0, none⟩ 1 1 [.int .i64 ((x : Int) * m + m - 1 - y)] rfl rfl ?c1 ?c2 ?c3 ?c4 ?c5 ?_)
            case c1 =>
              intro q u hq
              match q, hq with
              | 0, hq => simp at hq; subst hq; simp [Addr.add]
            case c2 => intro u hu; simp at hu; subst hu; rfl
            case c3 => unfold maxLen; omega
            case c4 => omega
            case c5 => simp; omega
            · intro v' w5 hown' hgrow _
              have hv : ((x : Int) * m + m - 1 - y) = ((cellAt m h k (y * h + x) : Nat) : Int) := by
                obtain ⟨d1, d2⟩ := divmod (a := y) hlx
                unfold cellAt
                rw [HW.out, d1, d2, CV.out]
                rw [Int.natCast_add, Int.natCast_mul]; omega
              rw [hv] at hown'
              have R : Own .i64 3 w1.heap.size w5 v' (firstv m h k (y * h + x + 1)) := Own.appended (f := fun p => ((cellAt m h k p : Nat) : Int)) hown'
              have K := kept_grown (kept_alloc hk _) (hown2.alloc _) (Nat.le_refl _) hgrow
              clear hown' hgrow hown2 hv
              go_wp2_with fail
              exact ⟨⟨x + 1, by omega, by go_num, R, K⟩, by simp [intOf]; omega⟩
          · have hxe := Lib.hid (show x = h by omega)
            clear hx
            go_wp2_with fail
            have hxe := hxe.out
            have e : y * h + x = (y + 1) * h := by rw [Nat.add_mul, Nat.one_mul]; omega
            exact ⟨⟨y + 1, by omega, by go_num, by rw [← e]; exact hown, hk⟩, by simp [intOf]; omega⟩
      · have hye : y = m := by omega
        have hs := size_eq m h k
        rw [HW.out, HH.out] at hs
        have HS := Lib.hid hs
        have HE := Lib.hid hye
        clear hs hye
        go_wp2_with fail
        have e : y * h = m * h := by rw [HE.out, Nat.mul_comm]
        rw [e] at hown
        exact bodyPost_ret (v := .tuple #[u12, .int .i64 (h : Int), .int .i64 (m : Int), .bool true]) (by simp [results, Try.results24, go_sem]) rfl ⟨_, rfl, hown, hk⟩
end Go.Proofs.Ythbbkmkaopgmdaa
/-
  Turned by one number and then by another: without Go.
-/
namespace Go.Proofs.Ythbbkmkaopgmdaa
open Go.RowKit BG
set_option linter.unusedVariables false

theorem rot_rot (x y j k : Int) : rx (rx x y j) (ry x y j) k = rx x y (j + k) ∧ ry (rx x y j) (ry x y j) k = ry x y (j + k) := by
  have a : j % 4 = 0 ∨ j % 4 = 1 ∨ j % 4 = 2 ∨ j % 4 = 3 := by omega
  have b : k % 4 = 0 ∨ k % 4 = 1 ∨ k % 4 = 2 ∨ k % 4 = 3 := by omega
  have e : (j + k) % 4 = (j % 4 + k % 4) % 4 := by omega
  rcases a with a | a | a | a <;> rcases b with b | b | b | b <;> rw [a, b] at e <;> simp [rx, ry, a, b, e]
theorem rot_mod {j k : Int} (h : j % 4 = k % 4) (x y : Int) : rx x y j = rx x y k ∧ ry x y j = ry x y k := by simp [rx, ry, h]
theorem rot_zero (x y : Int) : rx x y 0 = x ∧ ry x y 0 = y := by simp [rx, ry]
theorem tmod_back (k : Int) : (k + -(k.tmod 4)) % 4 = 0 := by
  have := Int.mul_tdiv_add_tmod k 4
  omega
theorem rot_back (x y k : Int) : rx (rx x y k) (ry x y k) (-(k.tmod 4)) = x ∧ ry (rx x y k) (ry x y k) (-(k.tmod 4)) = y := by
  obtain ⟨a, b⟩ := rot_rot x y k (-(k.tmod 4))
  obtain ⟨c, d⟩ := rot_mod (j := k + -(k.tmod 4)) (k := 0) (by rw [tmod_back]; decide) x y
  obtain ⟨e, f⟩ := rot_zero x y
  exact ⟨by rw [a, c, e], by rw [b, d, f]⟩
theorem win_rot {x y : Int} (k : Int) (h : win x y = true) : win (rx x y k) (ry x y k) = true := by
  obtain ⟨i1, i2⟩ := win_true h
  obtain ⟨b1, b2⟩ := rot_bd k (inb_true i1) (inb_true i2)
  simp [win, inb, b1, b2]
/-- A point turned back is what it was. -/
theorem point_back {x y : Int} (k : Int) (h : win x y = true) : win (px x y k) (py x y k) = true ∧ px (px x y k) (py x y k) (-(k.tmod 4)) = x ∧ py (px x y k) (py x y k) (-(k.tmod 4)) = y := by
  have e1 : px x y k = rx x y k := by unfold px; rw [if_pos h]
  have e2 : py x y k = ry x y k := by unfold py; rw [if_pos h]
  have hw := win_rot k h
  rw [e1, e2]
  refine ⟨hw, ?_, ?_⟩
  · unfold px; rw [if_pos hw]; exact (rot_back x y k).1
  · unfold py; rw [if_pos hw]; exact (rot_back x y k).2
theorem rot_lin (x y a b k : Int) : rx (x - a) (y - b) k = rx x y k - rx a b k ∧ ry (x - a) (y - b) k = ry x y k - ry a b k := by
  have q : k % 4 = 0 ∨ k % 4 = 1 ∨ k % 4 = 2 ∨ k % 4 = 3 := by omega
  rcases q with q | q | q | q <;> simp [rx, ry, q] <;> omega
theorem lo_congr {f g : Nat → Int} : ∀ {n : Nat}, 0 < n → (∀ q, q < n → f q = g q) → lo f n = lo g n := by
  have aux : ∀ m n, m ≤ n → 0 < n → (∀ q, q < n → f q = g q) → lo f m = lo g m := by
    intro m
    induction m with
    | zero => intro n _ hn h; exact h 0 hn
    | succ m ih =>
      intro n hm hn h
      show min (lo f m) (f m) = min (lo g m) (g m)
      rw [ih n (by omega) hn h, h m (by omega)]
  exact fun {n} hn h => aux n n (Nat.le_refl _) hn h
theorem lo_sub (f : Nat → Int) (c : Int) : ∀ n, lo (fun q => f q - c) n = lo f n - c := by
  intro n
  induction n with
  | zero => rfl
  | succ n ih =>
    show min (lo (fun q => f q - c) n) (f n - c) = min (lo f n) (f n) - c
    rw [ih]; omega
theorem lo_le {f : Nat → Int} : ∀ {n q : Nat}, q < n → lo f n ≤ f q := by
  intro n
  induction n with
  | zero => intro q h; omega
  | succ n ih =>
    intro q h
    show min (lo f n) (f n) ≤ f q
    rcases Nat.lt_or_ge q n with h' | h'
    · have := ih h'; omega
    · obtain rfl : q = n := by omega
      omega
theorem rotv_at (xs : List Int) (k : Int) {n q : Nat} (hq : q < n) : X (rotv xs k n) q = rx (X xs q) (Y xs q) k ∧ Y (rotv xs k n) q = ry (X xs q) (Y xs q) k := flat_at (fun j => rx (X xs j) (Y xs j) k) (fun j => ry (X xs j) (Y xs j) k) n q hq
theorem ptsv_at {xs : List Int} (k : Int) {n q : Nat} (hok : boxOk xs n = true) (hq : q < n) : X (ptsv xs k n) q = rx (X xs q) (Y xs q) k - lo (X (rotv xs k n)) n ∧ Y (ptsv xs k n) q = ry (X xs q) (Y xs q) k - lo (Y (rotv xs k n)) n := by
  unfold ptsv
  rw [if_pos hok]
  exact flat_at (fun j => rx (X xs j) (Y xs j) k - lo (X (rotv xs k n)) n) (fun j => ry (X xs j) (Y xs j) k - lo (Y (rotv xs k n)) n) n q hq
theorem ptsv_low {xs : List Int} (k : Int) {n q : Nat} (hok : boxOk xs n = true) (hq : q < n) : 0 ≤ X (ptsv xs k n) q ∧ 0 ≤ Y (ptsv xs k n) q := by
  obtain ⟨a, b⟩ := ptsv_at k hok hq
  obtain ⟨c, d⟩ := rotv_at xs k hq
  have e := lo_le (f := X (rotv xs k n)) hq
  have f := lo_le (f := Y (rotv xs k n)) hq
  omega
theorem ptsv_ok {xs : List Int} (k : Int) {n : Nat} (hok : boxOk xs n = true) (h : ∀ q, q < n → X (ptsv xs k n) q ≤ 1048576 ∧ Y (ptsv xs k n) q ≤ 1048576) : boxOk (ptsv xs k n) n = true := by
  have hn : 0 < n := by simp [boxOk] at hok; exact hok.1
  simp only [boxOk, decide_eq_true_eq]
  refine ⟨hn, fun q hq => ?_⟩
  obtain ⟨a, b⟩ := ptsv_low k hok hq
  obtain ⟨c, d⟩ := h q hq
  simp [win, inb]; omega
theorem ptsv_mod {j k : Int} (h : j % 4 = k % 4) (xs : List Int) (n : Nat) : ptsv xs j n = ptsv xs k n := by
  have e : rotv xs j n = rotv xs k n := by
    unfold rotv; exact flat_congr fun q _ => rot_mod h _ _
  unfold ptsv
  rw [e]
  split
  · refine flat_congr fun q _ => ?_
    obtain ⟨a, b⟩ := rot_mod h (X xs q) (Y xs q)
    rw [a, b]; exact ⟨rfl, rfl⟩
  · rfl
theorem ptsv_ptsv {xs : List Int} (j k : Int) {n : Nat} (hok : boxOk xs n = true) (hok2 : boxOk (ptsv xs j n) n = true) : ptsv (ptsv xs j n) k n = ptsv xs (j + k) n := by
  have hn : 0 < n := by simp [boxOk] at hok; exact hok.1
  generalize hA : lo (X (rotv xs j n)) n = A
  generalize hB : lo (Y (rotv xs j n)) n = B
  have at_ : ∀ q, q < n → rx (X (ptsv xs j n) q) (Y (ptsv xs j n) q) k = rx (X xs q) (Y xs q) (j + k) - rx A B k ∧ ry (X (ptsv xs j n) q) (Y (ptsv xs j n) q) k = ry (X xs q) (Y xs q) (j + k) - ry A B k := by
    intro q hq
    obtain ⟨a, b⟩ := ptsv_at j hok hq
    rw [a, b, hA, hB]
    obtain ⟨c, d⟩ := rot_lin (rx (X xs q) (Y xs q) j) (ry (X xs q) (Y xs q) j) A B k
    obtain ⟨e, f⟩ := rot_rot (X xs q) (Y xs q) j k
    rw [c, d, e, f]
    exact ⟨rfl, rfl⟩
  have lx : lo (X (rotv (ptsv xs j n) k n)) n = lo (X (rotv xs (j + k) n)) n - rx A B k := by
    rw [← lo_sub]
    refine lo_congr hn fun q hq => ?_
    rw [(rotv_at _ k hq).1, (rotv_at _ (j + k) hq).1, (at_ q hq).1]
  have ly : lo (Y (rotv (ptsv xs j n) k n)) n = lo (Y (rotv xs (j + k) n)) n - ry A B k := by
    rw [← lo_sub]
    refine lo_congr hn fun q hq => ?_
    rw [(rotv_at _ k hq).2, (rotv_at _ (j + k) hq).2, (at_ q hq).2]
  have e1 : ptsv (ptsv xs j n) k n = flat n (fun q => rx (X (ptsv xs j n) q) (Y (ptsv xs j n) q) k - lo (X (rotv (ptsv xs j n) k n)) n) (fun q => ry (X (ptsv xs j n) q) (Y (ptsv xs j n) q) k - lo (Y (rotv (ptsv xs j n) k n)) n) := by
    rw [ptsv.eq_def (ptsv xs j n), if_pos hok2]
  have e2 : ptsv xs (j + k) n = flat n (fun q => rx (X xs q) (Y xs q) (j + k) - lo (X (rotv xs (j + k) n)) n) (fun q => ry (X xs q) (Y xs q) (j + k) - lo (Y (rotv xs (j + k) n)) n) := by
    rw [ptsv, if_pos hok]
  rw [e1, e2]
  refine flat_congr fun q hq => ?_
  rw [(at_ q hq).1, (at_ q hq).2, lx, ly]
  omega
/-! ### Fields -/
theorem cell_whole (w h p : Nat) : cellAt w h 4 p = p ∧ cellAt w h 0 p = p := by
  have := Nat.div_add_mod' p w
  constructor
  · show cellXY w h 4 (p % wideN w h 4) (p / wideN w h 4) = p
    simp [cellXY, wideN]; omega
  · show cellXY w h 0 (p % wideN w h 0) (p / wideN w h 0) = p
    simp [cellXY, wideN]; omega
theorem cell_step {w h : Nat} (hw : 0 < w) (hh : 0 < h) (n : Nat) (hn : n < 4) {p : Nat} (hp : p < w * h) : cellAt w h (n : Int) (cellAt (wideN w h n) (highN w h n) 1 p) = cellAt w h ((n : Int) + 1) p := by
  have hs := size_eq w h (n : Int)
  obtain ⟨hW, hH⟩ := wide_pos (n : Int) hw hh
  have e1 : wideN (wideN w h n) (highN w h n) 1 = highN w h n := by simp [wideN]
  have e2 : wideN w h ((n : Int) + 1) = highN w h n := by
    have : n = 0 ∨ n = 1 ∨ n = 2 ∨ n = 3 := by omega
    rcases this with rfl | rfl | rfl | rfl <;> simp [wideN, highN]
  have hx : p % highN w h n < highN w h n := Nat.mod_lt _ hH
  have hy : p / highN w h n < wideN w h n := Nat.div_lt_of_lt_mul (by rw [Nat.mul_comm]; omega)
  have e3 : cellAt (wideN w h n) (highN w h n) 1 p = (highN w h n - 1 - p % highN w h n) * wideN w h n + p / highN w h n := by
    show cellXY (wideN w h n) (highN w h n) 1 (p % wideN (wideN w h n) (highN w h n) 1) (p / wideN (wideN w h n) (highN w h n) 1) = _
    rw [e1]; simp [cellXY]
  obtain ⟨d1, d2⟩ := divmod (a := highN w h n - 1 - p % highN w h n) hy
  have e4 : cellAt w h (n : Int) ((highN w h n - 1 - p % highN w h n) * wideN w h n + p / highN w h n) = cellXY w h n (p / highN w h n) (highN w h n - 1 - p % highN w h n) := by
    show cellXY w h n (_ % wideN w h n) (_ / wideN w h n) = _
    rw [d1, d2]
  have e5 : cellAt w h ((n : Int) + 1) p = cellXY w h ((n : Int) + 1) (p % highN w h n) (p / highN w h n) := by
    show cellXY w h ((n : Int) + 1) (p % wideN w h ((n : Int) + 1)) (p / wideN w h ((n : Int) + 1)) = _
    rw [e2]
  rw [e3, e4, e5]
  generalize p % highN w h n = x at hx
  generalize p / highN w h n = y at hy
  have : n = 0 ∨ n = 1 ∨ n = 2 ∨ n = 3 := by omega
  rcases this with rfl | rfl | rfl | rfl
  · simp [cellXY, highN]
  · simp [cellXY, highN]
  · simp [cellXY, highN, wideN] at *; congr 1; congr 1; omega
  · simp [cellXY, highN, wideN] at *; omega
/-- A cell is there once. -/
theorem cell_once {w h : Nat} (k : Int) (hw : 0 < w) (hh : 0 < h) {p q : Nat} (hp : p < w * h) (hq : q < w * h) (e : cellAt w h k p = cellAt w h k q) : p = q := by
  have := pos_cell k hw hh hp
  rw [e, pos_cell k hw hh hq] at this
  exact this.symm
end Go.Proofs.Ythbbkmkaopgmdaa
