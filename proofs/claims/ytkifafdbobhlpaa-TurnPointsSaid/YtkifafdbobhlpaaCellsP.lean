/-
  Layer 21: the cells of a turned field, in plain Lean.
-/
import Derived.Test.YtkifafdbobhlpaaWPlaces
namespace Go.Proofs.Ytkifafdbobhlpaa
open Go.RowKit
set_option linter.unusedVariables false

theorem lo_is {f : Nat → Int} {n : Nat} {m : Int} (h : ∀ q, q < n → m ≤ f q) {p : Nat} (hp : p < n) (e : f p = m) : lo f n = m := by
  have hn : 0 < n := by omega
  have h1 : ∀ j, j ≤ n → m ≤ lo f j := by
    intro j
    induction j with
    | zero => intro _; exact h 0 hn
    | succ j ih =>
      intro hj
      have a := ih (by omega)
      have b := h j (by omega)
      show m ≤ min (lo f j) (f j)
      omega
  have h2 : ∀ j, p < j → lo f j ≤ m := by
    intro j
    induction j with
    | zero => intro h; omega
    | succ j ih =>
      intro hj
      show min (lo f j) (f j) ≤ m
      rcases Nat.lt_or_ge p j with h' | h'
      · have := ih h'; omega
      · obtain rfl : p = j := by omega
        omega
  have a := h1 n (Nat.le_refl _)
  have b := h2 n hp
  omega
theorem hi_is {f : Nat → Int} {n : Nat} {m : Int} (h : ∀ q, q < n → f q ≤ m) {p : Nat} (hp : p < n) (e : f p = m) : hi f n = m := by
  have hn : 0 < n := by omega
  have h1 : ∀ j, j ≤ n → hi f j ≤ m := by
    intro j
    induction j with
    | zero => intro _; exact h 0 hn
    | succ j ih =>
      intro hj
      have a := ih (by omega)
      have b := h j (by omega)
      show max (hi f j) (f j) ≤ m
      omega
  have h2 : ∀ j, p < j → m ≤ hi f j := by
    intro j
    induction j with
    | zero => intro h; omega
    | succ j ih =>
      intro hj
      show m ≤ max (hi f j) (f j)
      rcases Nat.lt_or_ge p j with h' | h'
      · have := ih h'; omega
      · obtain rfl : p = j := by omega
        omega
  have a := h1 n (Nat.le_refl _)
  have b := h2 n hp
  omega

/-- Columns and rows of the turned field. -/
def wideN (w h : Nat) (k : Int) : Nat := if k % 4 = 1 ∨ k % 4 = 3 then h else w
def highN (w h : Nat) (k : Int) : Nat := if k % 4 = 1 ∨ k % 4 = 3 then w else h
/-- Which cell stands at column x, row y of the turned field. -/
def cellXY (w h : Nat) (k : Int) (x y : Nat) : Nat :=
  if k % 4 = 0 then y * w + x else if k % 4 = 1 then (h - 1 - x) * w + y else if k % 4 = 2 then (h - 1 - y) * w + (w - 1 - x) else x * w + (w - 1 - y)
def cellAt (w h : Nat) (k : Int) (p : Nat) : Nat := cellXY w h k (p % wideN w h k) (p / wideN w h k)
/-- Column and row of cell i in the turned field. -/
def colOf (w h : Nat) (k : Int) (i : Nat) : Nat := if k % 4 = 0 then i % w else if k % 4 = 1 then h - 1 - i / w else if k % 4 = 2 then w - 1 - i % w else i / w
def rowOf (w h : Nat) (k : Int) (i : Nat) : Nat := if k % 4 = 0 then i / w else if k % 4 = 1 then i % w else if k % 4 = 2 then h - 1 - i / w else w - 1 - i % w
def posOf (w h : Nat) (k : Int) (i : Nat) : Nat := rowOf w h k i * wideN w h k + colOf w h k i

theorem divmod {a b c : Nat} (h : b < c) : (a * c + b) / c = a ∧ (a * c + b) % c = b := by
  have hc : 0 < c := by omega
  rw [Nat.add_comm, Nat.add_mul_div_right _ _ hc, Nat.add_mul_mod_self_right, Nat.div_eq_of_lt h, Nat.mod_eq_of_lt h, Nat.zero_add]
  exact ⟨rfl, rfl⟩
theorem div_lt' {w h i : Nat} (hi : i < w * h) : i / w < h := Nat.div_lt_of_lt_mul hi
theorem pos_bd {w h i : Nat} (k : Int) (hw : 0 < w) (hh : 0 < h) (hi : i < w * h) : colOf w h k i < wideN w h k ∧ rowOf w h k i < highN w h k := by
  have a := div_lt' hi
  have b := Nat.mod_lt i hw
  unfold colOf rowOf wideN highN
  generalize i / w = d at *
  generalize i % w = r at *
  have q : k % 4 = 0 ∨ k % 4 = 1 ∨ k % 4 = 2 ∨ k % 4 = 3 := by omega
  rcases q with q | q | q | q <;> simp [q] <;> omega
theorem cell_pos {w h i : Nat} (k : Int) (hw : 0 < w) (hh : 0 < h) (hi : i < w * h) : cellAt w h k (posOf w h k i) = i := by
  obtain ⟨b1, b2⟩ := pos_bd k hw hh hi
  obtain ⟨d1, d2⟩ := divmod (a := rowOf w h k i) b1
  have e := Nat.div_add_mod i w
  have a := div_lt' hi
  have b := Nat.mod_lt i hw
  rw [Nat.mul_comm] at e
  unfold cellAt posOf
  rw [d1, d2]
  clear d1 d2 b1 b2
  unfold cellXY colOf rowOf
  generalize i / w = d at *
  generalize i % w = r at *
  have q : k % 4 = 0 ∨ k % 4 = 1 ∨ k % 4 = 2 ∨ k % 4 = 3 := by omega
  rcases q with q | q | q | q <;> simp only [q, if_true, if_false, show ¬ (1 : Int) = 0 by decide, show ¬ (2 : Int) = 0 by decide, show ¬ (3 : Int) = 0 by decide, show ¬ (2 : Int) = 1 by decide, show ¬ (3 : Int) = 1 by decide, show ¬ (3 : Int) = 2 by decide]
  · exact e
  · rw [show h - 1 - (h - 1 - d) = d by omega]; exact e
  · rw [show h - 1 - (h - 1 - d) = d by omega, show w - 1 - (w - 1 - r) = r by omega]; exact e
  · rw [show w - 1 - (w - 1 - r) = r by omega]; exact e
theorem size_eq (w h : Nat) (k : Int) : wideN w h k * highN w h k = w * h := by
  unfold wideN highN
  split
  · exact Nat.mul_comm _ _
  · rfl
theorem cell_lt {w h p : Nat} (k : Int) (hw : 0 < w) (hh : 0 < h) (hp : p < w * h) : cellAt w h k p < w * h := by
  have hW : 0 < wideN w h k := by unfold wideN; split <;> assumption
  have a : p / wideN w h k < highN w h k := Nat.div_lt_of_lt_mul (by rw [size_eq]; exact hp)
  have b := Nat.mod_lt p hW
  have key : ∀ x y, x < w → y < h → y * w + x < w * h := by
    intro x y hx hy
    have : (y + 1) * w ≤ h * w := Nat.mul_le_mul_right _ hy
    rw [Nat.add_mul, Nat.one_mul] at this
    rw [Nat.mul_comm w h]
    omega
  unfold cellAt
  generalize p % wideN w h k = x at *
  generalize p / wideN w h k = y at *
  clear hp
  revert a b
  unfold wideN highN cellXY
  have q : k % 4 = 0 ∨ k % 4 = 1 ∨ k % 4 = 2 ∨ k % 4 = 3 := by omega
  rcases q with q | q | q | q <;> simp only [q, if_true, if_false, show ¬ (1 : Int) = 0 by decide, show ¬ (2 : Int) = 0 by decide, show ¬ (3 : Int) = 0 by decide, show ¬ (2 : Int) = 1 by decide, show ¬ (3 : Int) = 1 by decide, show ¬ (3 : Int) = 2 by decide, show ¬ (0 : Int) = 1 by decide, show ¬ (0 : Int) = 3 by decide, show ¬ (1 : Int) = 3 by decide, show ¬ (2 : Int) = 3 by decide, or_false, or_true] <;> intro a b <;> exact key _ _ (by omega) (by omega)
theorem colrow_cell {w h p : Nat} (k : Int) (hw : 0 < w) (hh : 0 < h) (hp : p < w * h) : colOf w h k (cellAt w h k p) = p % wideN w h k ∧ rowOf w h k (cellAt w h k p) = p / wideN w h k := by
  have hW : 0 < wideN w h k := by unfold wideN; split <;> assumption
  have a : p / wideN w h k < highN w h k := Nat.div_lt_of_lt_mul (by rw [size_eq]; exact hp)
  have b := Nat.mod_lt p hW
  unfold cellAt
  generalize p % wideN w h k = x at *
  generalize p / wideN w h k = y at *
  revert a b
  unfold wideN highN colOf rowOf cellXY
  have q : k % 4 = 0 ∨ k % 4 = 1 ∨ k % 4 = 2 ∨ k % 4 = 3 := by omega
  rcases q with q | q | q | q <;> simp only [q, if_true, if_false, show ¬ (1 : Int) = 0 by decide, show ¬ (2 : Int) = 0 by decide, show ¬ (3 : Int) = 0 by decide, show ¬ (2 : Int) = 1 by decide, show ¬ (3 : Int) = 1 by decide, show ¬ (3 : Int) = 2 by decide, show ¬ (0 : Int) = 1 by decide, show ¬ (0 : Int) = 3 by decide, show ¬ (1 : Int) = 3 by decide, show ¬ (2 : Int) = 3 by decide, or_false, or_true] <;> intro a b
  · obtain ⟨d1, d2⟩ := divmod (a := y) a; rw [d1, d2]; exact ⟨rfl, rfl⟩
  · obtain ⟨d1, d2⟩ := divmod (a := h - 1 - x) b; rw [d1, d2]; exact ⟨by omega, rfl⟩
  · obtain ⟨d1, d2⟩ := divmod (a := h - 1 - y) (b := w - 1 - x) (c := w) (by omega); rw [d1, d2]; exact ⟨by omega, by omega⟩
  · obtain ⟨d1, d2⟩ := divmod (a := x) (b := w - 1 - y) (c := w) (by omega); rw [d1, d2]; exact ⟨rfl, by omega⟩
theorem pos_cell {w h p : Nat} (k : Int) (hw : 0 < w) (hh : 0 < h) (hp : p < w * h) : posOf w h k (cellAt w h k p) = p := by
  have e := Nat.div_add_mod p (wideN w h k)
  rw [Nat.mul_comm] at e
  have key := colrow_cell k hw hh hp
  unfold posOf
  rw [key.1, key.2]
  exact e
theorem wide_pos {w h : Nat} (k : Int) (hw : 0 < w) (hh : 0 < h) : 0 < wideN w h k ∧ 0 < highN w h k := by
  unfold wideN highN; split <;> exact ⟨by assumption, by assumption⟩
theorem wide_le {w h m : Nat} (k : Int) (hw : w ≤ m) (hh : h ≤ m) : wideN w h k ≤ m ∧ highN w h k ≤ m := by
  unfold wideN highN; split <;> exact ⟨by assumption, by assumption⟩
end Go.Proofs.Ytkifafdbobhlpaa
