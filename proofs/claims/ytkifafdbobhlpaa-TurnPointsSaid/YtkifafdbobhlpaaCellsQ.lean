/-
  Layer 21: a field's points, turned and moved: each stands at its column and row.
-/
import Derived.Test.YtkifafdbobhlpaaCellsP
namespace Go.Proofs.Ytkifafdbobhlpaa
open Go.RowKit
set_option linter.unusedVariables false

/-- The points of a field of w columns, cell by cell. -/
def gridv (w n : Nat) : List Int := flat n (fun i => ((i % w : Nat) : Int)) (fun i => ((i / w : Nat) : Int))
theorem grid_at (w : Nat) {n i : Nat} (hi : i < n) : X (gridv w n) i = ((i % w : Nat) : Int) ∧ Y (gridv w n) i = ((i / w : Nat) : Int) := flat_at (fun i => ((i % w : Nat) : Int)) (fun i => ((i / w : Nat) : Int)) n i hi
theorem grid_ok {w h : Nat} (hw : 0 < w) (hh : 0 < h) (hw2 : w ≤ 64) (hh2 : h ≤ 64) : boxOk (gridv w (w * h)) (w * h) = true := by
  simp only [boxOk, decide_eq_true_eq]
  refine ⟨Nat.mul_pos hw hh, fun i hi => ?_⟩
  obtain ⟨e1, e2⟩ := grid_at w hi
  rw [e1, e2]
  have a := div_lt' hi
  have b := Nat.mod_lt i hw
  generalize i / w = d at *
  generalize i % w = r at *
  simp [win, inb]
  omega
theorem grid_rot {w h : Nat} (k : Int) {i : Nat} (hi : i < w * h) : X (rotv (gridv w (w * h)) k (w * h)) i = rx ((i % w : Nat) : Int) ((i / w : Nat) : Int) k ∧ Y (rotv (gridv w (w * h)) k (w * h)) i = ry ((i % w : Nat) : Int) ((i / w : Nat) : Int) k := by
  obtain ⟨e1, e2⟩ := grid_at w hi
  obtain ⟨e3, e4⟩ := flat_at (fun j => rx (X (gridv w (w * h)) j) (Y (gridv w (w * h)) j) k) (fun j => ry (X (gridv w (w * h)) j) (Y (gridv w (w * h)) j) k) (w * h) i hi
  unfold rotv
  rw [e3, e4, e1, e2]
  exact ⟨rfl, rfl⟩
theorem last_col {w h : Nat} (hw : 0 < w) (hh : 0 < h) : w - 1 < w * h ∧ (w - 1) % w = w - 1 := ⟨by have := Nat.mul_le_mul_left w (show 1 ≤ h from hh); omega, Nat.mod_eq_of_lt (by omega)⟩
theorem last_row {w h : Nat} (hw : 0 < w) (hh : 0 < h) : (h - 1) * w < w * h ∧ (h - 1) * w / w = h - 1 := by
  refine ⟨?_, Nat.mul_div_cancel _ hw⟩
  rw [Nat.mul_comm w h]
  exact Nat.mul_lt_mul_of_pos_right (by omega) hw
theorem grid_lo {w h : Nat} (k : Int) (hw : 0 < w) (hh : 0 < h) : lo (X (rotv (gridv w (w * h)) k (w * h))) (w * h) = (if k % 4 = 1 then -((h : Int) - 1) else if k % 4 = 2 then -((w : Int) - 1) else 0) ∧ lo (Y (rotv (gridv w (w * h)) k (w * h))) (w * h) = (if k % 4 = 2 then -((h : Int) - 1) else if k % 4 = 3 then -((w : Int) - 1) else 0) := by
  have h0 : 0 < w * h := Nat.mul_pos hw hh
  obtain ⟨c1, c2⟩ := last_col hw hh
  obtain ⟨r1, r2⟩ := last_row hw hh
  have at_ := fun {i : Nat} (hi : i < w * h) => grid_rot k hi
  have bd : ∀ i, i < w * h → i / w < h ∧ i % w < w := fun i hi => ⟨div_lt' hi, Nat.mod_lt i hw⟩
  have q : k % 4 = 0 ∨ k % 4 = 1 ∨ k % 4 = 2 ∨ k % 4 = 3 := by omega
  rcases q with q | q | q | q
  · refine ⟨lo_is (p := 0) (fun i hi => ?_) h0 ?_, lo_is (p := 0) (fun i hi => ?_) h0 ?_⟩
    · rw [(at_ hi).1]; have := bd i hi; generalize i % w = r at *; generalize i / w = d at *; simp [rx, q] <;> omega
    · rw [(at_ h0).1]; simp [rx, q]
    · rw [(at_ hi).2]; have := bd i hi; generalize i % w = r at *; generalize i / w = d at *; simp [ry, q] <;> omega
    · rw [(at_ h0).2]; simp [ry, q]
  · refine ⟨lo_is (p := (h - 1) * w) (fun i hi => ?_) r1 ?_, lo_is (p := 0) (fun i hi => ?_) h0 ?_⟩
    · rw [(at_ hi).1]; have := bd i hi; simp only [rx, q]; generalize i / w = d at *; simp; omega
    · rw [(at_ r1).1, r2]; simp only [rx, q]; simp; omega
    · rw [(at_ hi).2]; have := bd i hi; generalize i % w = r at *; generalize i / w = d at *; simp [ry, q] <;> omega
    · rw [(at_ h0).2]; simp [ry, q]
  · refine ⟨lo_is (p := w - 1) (fun i hi => ?_) c1 ?_, lo_is (p := (h - 1) * w) (fun i hi => ?_) r1 ?_⟩
    · rw [(at_ hi).1]; have := bd i hi; simp only [rx, q]; generalize i % w = d at *; simp; omega
    · rw [(at_ c1).1, c2]; simp only [rx, q]; simp; omega
    · rw [(at_ hi).2]; have := bd i hi; simp only [ry, q]; generalize i / w = d at *; simp; omega
    · rw [(at_ r1).2, r2]; simp only [ry, q]; simp; omega
  · refine ⟨lo_is (p := 0) (fun i hi => ?_) h0 ?_, lo_is (p := w - 1) (fun i hi => ?_) c1 ?_⟩
    · rw [(at_ hi).1]; have := bd i hi; generalize i % w = r at *; generalize i / w = d at *; simp [rx, q] <;> omega
    · rw [(at_ h0).1]; simp [rx, q]
    · rw [(at_ hi).2]; have := bd i hi; simp only [ry, q]; generalize i % w = d at *; simp; omega
    · rw [(at_ c1).2, c2]; simp only [ry, q]; simp; omega
theorem grid_pts {w h : Nat} (k : Int) (hw : 0 < w) (hh : 0 < h) (hw2 : w ≤ 64) (hh2 : h ≤ 64) {i : Nat} (hi : i < w * h) : X (ptsv (gridv w (w * h)) k (w * h)) i = (colOf w h k i : Nat) ∧ Y (ptsv (gridv w (w * h)) k (w * h)) i = (rowOf w h k i : Nat) := by
  obtain ⟨e1, e2⟩ := grid_at w hi
  obtain ⟨l1, l2⟩ := grid_lo k hw hh
  have f := flat_at (fun j => rx (X (gridv w (w * h)) j) (Y (gridv w (w * h)) j) k - lo (X (rotv (gridv w (w * h)) k (w * h))) (w * h)) (fun j => ry (X (gridv w (w * h)) j) (Y (gridv w (w * h)) j) k - lo (Y (rotv (gridv w (w * h)) k (w * h))) (w * h)) (w * h) i hi
  unfold ptsv
  rw [grid_ok hw hh hw2 hh2, if_pos rfl, f.1, f.2, l1, l2, e1, e2]
  have a := div_lt' hi
  have b := Nat.mod_lt i hw
  unfold colOf rowOf rx ry
  generalize i / w = d at *
  generalize i % w = r at *
  clear f e1 e2 l1 l2 hi
  have q : k % 4 = 0 ∨ k % 4 = 1 ∨ k % 4 = 2 ∨ k % 4 = 3 := by omega
  rcases q with q | q | q | q <;> simp [q] <;> omega
theorem ptsv_length (xs : List Int) (k : Int) (n : Nat) : (ptsv xs k n).length = 2 * (if boxOk xs n then n else 0) := by
  unfold ptsv
  split
  · exact flat_length _ _ _
  · rfl
theorem grid_ok2 {w h : Nat} (k : Int) (hw : 0 < w) (hh : 0 < h) (hw2 : w ≤ 64) (hh2 : h ≤ 64) : boxOk (ptsv (gridv w (w * h)) k (w * h)) (w * h) = true := by
  simp only [boxOk, decide_eq_true_eq]
  refine ⟨Nat.mul_pos hw hh, fun i hi => ?_⟩
  obtain ⟨e1, e2⟩ := grid_pts k hw hh hw2 hh2 hi
  obtain ⟨b1, b2⟩ := pos_bd k hw hh hi
  obtain ⟨c1, c2⟩ := wide_le k hw2 hh2
  rw [e1, e2]
  simp [win, inb]
  omega
theorem grid_hi {w h : Nat} (k : Int) (hw : 0 < w) (hh : 0 < h) (hw2 : w ≤ 64) (hh2 : h ≤ 64) : hi (X (ptsv (gridv w (w * h)) k (w * h))) (w * h) = (wideN w h k : Int) - 1 ∧ hi (Y (ptsv (gridv w (w * h)) k (w * h))) (w * h) = (highN w h k : Int) - 1 := by
  obtain ⟨p1, p2⟩ := wide_pos k hw hh
  have hs := size_eq w h k
  have g1 : wideN w h k - 1 < w * h := by have := Nat.mul_le_mul_left (wideN w h k) (show 1 ≤ highN w h k from p2); omega
  have g2 : (highN w h k - 1) * wideN w h k < w * h := by
    rw [← hs, Nat.mul_comm (wideN w h k)]
    exact Nat.mul_lt_mul_of_pos_right (by omega) p1
  have at_ := fun {i : Nat} (hi : i < w * h) => grid_pts k hw hh hw2 hh2 hi
  constructor
  · refine hi_is (p := cellAt w h k (wideN w h k - 1)) (fun i hi => ?_) (cell_lt k hw hh g1) ?_
    · rw [(at_ hi).1]; have := (pos_bd k hw hh hi).1; omega
    · rw [(at_ (cell_lt k hw hh g1)).1, (colrow_cell k hw hh g1).1, Nat.mod_eq_of_lt (by omega)]; omega
  · refine hi_is (p := cellAt w h k ((highN w h k - 1) * wideN w h k)) (fun i hi => ?_) (cell_lt k hw hh g2) ?_
    · rw [(at_ hi).2]; have := (pos_bd k hw hh hi).2; omega
    · rw [(at_ (cell_lt k hw hh g2)).2, (colrow_cell k hw hh g2).2, Nat.mul_div_cancel _ p1]; omega
/-- The turned field, cell by cell. -/
def cellsv (w h : Nat) (k : Int) : List Int := mk (w * h) fun p => (cellAt w h k p : Nat)
/-- The same, where the cells from j on are not laid yet. -/
def cellsTo (w h : Nat) (k : Int) (j : Nat) : List Int := mk (w * h) fun p => if cellAt w h k p < j then ((cellAt w h k p : Nat) : Int) else 0
theorem mk_set {n : Nat} (f : Nat → Int) {j : Nat} (hj : j < n) (u : Int) : (mk n f).set j u = mk n fun p => if p = j then u else f p := by
  refine List.ext_getElem (by simp [mk]) fun i h1 h2 => ?_
  rw [List.getElem_set]
  simp only [mk, List.getElem_map, List.getElem_range]
  by_cases h : j = i
  · rw [if_pos h, if_pos h.symm]
  · rw [if_neg h, if_neg (Ne.symm h)]
theorem cellsTo_zero (w h : Nat) (k : Int) : cellsTo w h k 0 = mk (w * h) fun _ => 0 := mk_congr fun p _ => by simp
theorem cellsTo_all {w h : Nat} (k : Int) (hw : 0 < w) (hh : 0 < h) : cellsTo w h k (w * h) = cellsv w h k := mk_congr fun p hp => by rw [if_pos (cell_lt k hw hh hp)]
theorem posOf_lt {w h i : Nat} (k : Int) (hw : 0 < w) (hh : 0 < h) (hi : i < w * h) : posOf w h k i < w * h := by
  obtain ⟨b1, b2⟩ := pos_bd k hw hh hi
  rw [← size_eq w h k]
  unfold posOf
  have : (rowOf w h k i + 1) * wideN w h k ≤ highN w h k * wideN w h k := Nat.mul_le_mul_right _ b2
  rw [Nat.add_mul, Nat.one_mul, Nat.mul_comm (highN w h k)] at this
  omega
theorem cellsTo_set {w h : Nat} (k : Int) (hw : 0 < w) (hh : 0 < h) {j : Nat} (hj : j < w * h) : (cellsTo w h k j).set (posOf w h k j) j = cellsTo w h k (j + 1) := by
  unfold cellsTo
  rw [mk_set _ (posOf_lt k hw hh hj)]
  refine mk_congr fun p hp => ?_
  by_cases h1 : p = posOf w h k j
  · rw [if_pos h1, h1, cell_pos k hw hh hj, if_pos (by omega)]
  · rw [if_neg h1]
    have : cellAt w h k p ≠ j := fun e => h1 (by rw [← e, pos_cell k hw hh hp])
    by_cases h2 : cellAt w h k p < j
    · rw [if_pos h2, if_pos (by omega)]
    · rw [if_neg h2, if_neg (by omega)]
end Go.Proofs.Ytkifafdbobhlpaa
