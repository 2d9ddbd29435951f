/-
  Turned by one number and then by another: without Go.
-/
import Derived.Test.YtkifafdbobhlpaaCellsQ
namespace Go.Proofs.Ytkifafdbobhlpaa
open Go.RowKit BG
set_option linter.unusedVariables false

theorem rot_rot (x y j k : Int) : rx (rx x y j) (ry x y j) k = rx x y (j + k) ∧ ry (rx x y j) (ry x y j) k = ry x y (j + k) := by
  have a : j % 4 = 0 ∨ j % 4 = 1 ∨ j % 4 = 2 ∨ j % 4 = 3 := by omega
  have b : k % 4 = 0 ∨ k % 4 = 1 ∨ k % 4 = 2 ∨ k % 4 = 3 := by omega
  have e : (j + k) % 4 = (j % 4 + k % 4) % 4 := by omega
  rcases a with a | a | a | a <;> rcases b with b | b | b | b <;> rw [a, b] at e <;> simp [rx, ry, a, b, e]
theorem rot_mod {j k : Int} (h : j % 4 = k % 4) (x y : Int) : rx x y j = rx x y k ∧ ry x y j = ry x y k := by simp [rx, ry, h]
theorem rot_zero (x y : Int) : rx x y 0 = x ∧ ry x y 0 = y := by simp [rx, ry]
theorem tmod_back (k : Int) : (k + -(k.tmod 4)) % 4 = 0 := by
  have := Int.mul_tdiv_add_tmod k 4
  omega
theorem rot_back (x y k : Int) : rx (rx x y k) (ry x y k) (-(k.tmod 4)) = x ∧ ry (rx x y k) (ry x y k) (-(k.tmod 4)) = y := by
  obtain ⟨a, b⟩ := rot_rot x y k (-(k.tmod 4))
  obtain ⟨c, d⟩ := rot_mod (j := k + -(k.tmod 4)) (k := 0) (by rw [tmod_back]; decide) x y
  obtain ⟨e, f⟩ := rot_zero x y
  exact ⟨by rw [a, c, e], by rw [b, d, f]⟩
theorem win_rot {x y : Int} (k : Int) (h : win x y = true) : win (rx x y k) (ry x y k) = true := by
  obtain ⟨i1, i2⟩ := win_true h
  obtain ⟨b1, b2⟩ := rot_bd k (inb_true i1) (inb_true i2)
  simp [win, inb, b1, b2]
/-- A point turned back is what it was. -/
theorem point_back {x y : Int} (k : Int) (h : win x y = true) : win (px x y k) (py x y k) = true ∧ px (px x y k) (py x y k) (-(k.tmod 4)) = x ∧ py (px x y k) (py x y k) (-(k.tmod 4)) = y := by
  have e1 : px x y k = rx x y k := by unfold px; rw [if_pos h]
  have e2 : py x y k = ry x y k := by unfold py; rw [if_pos h]
  have hw := win_rot k h
  rw [e1, e2]
  refine ⟨hw, ?_, ?_⟩
  · unfold px; rw [if_pos hw]; exact (rot_back x y k).1
  · unfold py; rw [if_pos hw]; exact (rot_back x y k).2
theorem rot_lin (x y a b k : Int) : rx (x - a) (y - b) k = rx x y k - rx a b k ∧ ry (x - a) (y - b) k = ry x y k - ry a b k := by
  have q : k % 4 = 0 ∨ k % 4 = 1 ∨ k % 4 = 2 ∨ k % 4 = 3 := by omega
  rcases q with q | q | q | q <;> simp [rx, ry, q] <;> omega
theorem lo_congr {f g : Nat → Int} : ∀ {n : Nat}, 0 < n → (∀ q, q < n → f q = g q) → lo f n = lo g n := by
  have aux : ∀ m n, m ≤ n → 0 < n → (∀ q, q < n → f q = g q) → lo f m = lo g m := by
    intro m
    induction m with
    | zero => intro n _ hn h; exact h 0 hn
    | succ m ih =>
      intro n hm hn h
      show min (lo f m) (f m) = min (lo g m) (g m)
      rw [ih n (by omega) hn h, h m (by omega)]
  exact fun {n} hn h => aux n n (Nat.le_refl _) hn h
theorem lo_sub (f : Nat → Int) (c : Int) : ∀ n, lo (fun q => f q - c) n = lo f n - c := by
  intro n
  induction n with
  | zero => rfl
  | succ n ih =>
    show min (lo (fun q => f q - c) n) (f n - c) = min (lo f n) (f n) - c
    rw [ih]; omega
theorem lo_le {f : Nat → Int} : ∀ {n q : Nat}, q < n → lo f n ≤ f q := by
  intro n
  induction n with
  | zero => intro q h; omega
  | succ n ih =>
    intro q h
    show min (lo f n) (f n) ≤ f q
    rcases Nat.lt_or_ge q n with h' | h'
    · have := ih h'; omega
    · obtain rfl : q = n := by omega
      omega
theorem rotv_at (xs : List Int) (k : Int) {n q : Nat} (hq : q < n) : X (rotv xs k n) q = rx (X xs q) (Y xs q) k ∧ Y (rotv xs k n) q = ry (X xs q) (Y xs q) k := flat_at (fun j => rx (X xs j) (Y xs j) k) (fun j => ry (X xs j) (Y xs j) k) n q hq
theorem ptsv_at {xs : List Int} (k : Int) {n q : Nat} (hok : boxOk xs n = true) (hq : q < n) : X (ptsv xs k n) q = rx (X xs q) (Y xs q) k - lo (X (rotv xs k n)) n ∧ Y (ptsv xs k n) q = ry (X xs q) (Y xs q) k - lo (Y (rotv xs k n)) n := by
  unfold ptsv
  rw [if_pos hok]
  exact flat_at (fun j => rx (X xs j) (Y xs j) k - lo (X (rotv xs k n)) n) (fun j => ry (X xs j) (Y xs j) k - lo (Y (rotv xs k n)) n) n q hq
theorem ptsv_low {xs : List Int} (k : Int) {n q : Nat} (hok : boxOk xs n = true) (hq : q < n) : 0 ≤ X (ptsv xs k n) q ∧ 0 ≤ Y (ptsv xs k n) q := by
  obtain ⟨a, b⟩ := ptsv_at k hok hq
  obtain ⟨c, d⟩ := rotv_at xs k hq
  have e := lo_le (f := X (rotv xs k n)) hq
  have f := lo_le (f := Y (rotv xs k n)) hq
  omega
theorem ptsv_ok {xs : List Int} (k : Int) {n : Nat} (hok : boxOk xs n = true) (h : ∀ q, q < n → X (ptsv xs k n) q ≤ 1048576 ∧ Y (ptsv xs k n) q ≤ 1048576) : boxOk (ptsv xs k n) n = true := by
  have hn : 0 < n := by simp [boxOk] at hok; exact hok.1
  simp only [boxOk, decide_eq_true_eq]
  refine ⟨hn, fun q hq => ?_⟩
  obtain ⟨a, b⟩ := ptsv_low k hok hq
  obtain ⟨c, d⟩ := h q hq
  simp [win, inb]; omega
theorem ptsv_mod {j k : Int} (h : j % 4 = k % 4) (xs : List Int) (n : Nat) : ptsv xs j n = ptsv xs k n := by
  have e : rotv xs j n = rotv xs k n := by
    unfold rotv; exact flat_congr fun q _ => rot_mod h _ _
  unfold ptsv
  rw [e]
  split
  · refine flat_congr fun q _ => ?_
    obtain ⟨a, b⟩ := rot_mod h (X xs q) (Y xs q)
    rw [a, b]; exact ⟨rfl, rfl⟩
  · rfl
theorem ptsv_ptsv {xs : List Int} (j k : Int) {n : Nat} (hok : boxOk xs n = true) (hok2 : boxOk (ptsv xs j n) n = true) : ptsv (ptsv xs j n) k n = ptsv xs (j + k) n := by
  have hn : 0 < n := by simp [boxOk] at hok; exact hok.1
  generalize hA : lo (X (rotv xs j n)) n = A
  generalize hB : lo (Y (rotv xs j n)) n = B
  have at_ : ∀ q, q < n → rx (X (ptsv xs j n) q) (Y (ptsv xs j n) q) k = rx (X xs q) (Y xs q) (j + k) - rx A B k ∧ ry (X (ptsv xs j n) q) (Y (ptsv xs j n) q) k = ry (X xs q) (Y xs q) (j + k) - ry A B k := by
    intro q hq
    obtain ⟨a, b⟩ := ptsv_at j hok hq
    rw [a, b, hA, hB]
    obtain ⟨c, d⟩ := rot_lin (rx (X xs q) (Y xs q) j) (ry (X xs q) (Y xs q) j) A B k
    obtain ⟨e, f⟩ := rot_rot (X xs q) (Y xs q) j k
    rw [c, d, e, f]
    exact ⟨rfl, rfl⟩
  have lx : lo (X (rotv (ptsv xs j n) k n)) n = lo (X (rotv xs (j + k) n)) n - rx A B k := by
    rw [← lo_sub]
    refine lo_congr hn fun q hq => ?_
    rw [(rotv_at _ k hq).1, (rotv_at _ (j + k) hq).1, (at_ q hq).1]
  have ly : lo (Y (rotv (ptsv xs j n) k n)) n = lo (Y (rotv xs (j + k) n)) n - ry A B k := by
    rw [← lo_sub]
    refine lo_congr hn fun q hq => ?_
    rw [(rotv_at _ k hq).2, (rotv_at _ (j + k) hq).2, (at_ q hq).2]
  have e1 : ptsv (ptsv xs j n) k n = flat n (fun q => rx (X (ptsv xs j n) q) (Y (ptsv xs j n) q) k - lo (X (rotv (ptsv xs j n) k n)) n) (fun q => ry (X (ptsv xs j n) q) (Y (ptsv xs j n) q) k - lo (Y (rotv (ptsv xs j n) k n)) n) := by
    rw [ptsv.eq_def (ptsv xs j n), if_pos hok2]
  have e2 : ptsv xs (j + k) n = flat n (fun q => rx (X xs q) (Y xs q) (j + k) - lo (X (rotv xs (j + k) n)) n) (fun q => ry (X xs q) (Y xs q) (j + k) - lo (Y (rotv xs (j + k) n)) n) := by
    rw [ptsv, if_pos hok]
  rw [e1, e2]
  refine flat_congr fun q hq => ?_
  rw [(at_ q hq).1, (at_ q hq).2, lx, ly]
  omega
/-! ### Fields -/
theorem cell_whole (w h p : Nat) : cellAt w h 4 p = p ∧ cellAt w h 0 p = p := by
  have := Nat.div_add_mod' p w
  constructor
  · show cellXY w h 4 (p % wideN w h 4) (p / wideN w h 4) = p
    simp [cellXY, wideN]; omega
  · show cellXY w h 0 (p % wideN w h 0) (p / wideN w h 0) = p
    simp [cellXY, wideN]; omega
theorem cell_step {w h : Nat} (hw : 0 < w) (hh : 0 < h) (n : Nat) (hn : n < 4) {p : Nat} (hp : p < w * h) : cellAt w h (n : Int) (cellAt (wideN w h n) (highN w h n) 1 p) = cellAt w h ((n : Int) + 1) p := by
  have hs := size_eq w h (n : Int)
  obtain ⟨hW, hH⟩ := wide_pos (n : Int) hw hh
  have e1 : wideN (wideN w h n) (highN w h n) 1 = highN w h n := by simp [wideN]
  have e2 : wideN w h ((n : Int) + 1) = highN w h n := by
    have : n = 0 ∨ n = 1 ∨ n = 2 ∨ n = 3 := by omega
    rcases this with rfl | rfl | rfl | rfl <;> simp [wideN, highN]
  have hx : p % highN w h n < highN w h n := Nat.mod_lt _ hH
  have hy : p / highN w h n < wideN w h n := Nat.div_lt_of_lt_mul (by rw [Nat.mul_comm]; omega)
  have e3 : cellAt (wideN w h n) (highN w h n) 1 p = (highN w h n - 1 - p % highN w h n) * wideN w h n + p / highN w h n := by
    show cellXY (wideN w h n) (highN w h n) 1 (p % wideN (wideN w h n) (highN w h n) 1) (p / wideN (wideN w h n) (highN w h n) 1) = _
    rw [e1]; simp [cellXY]
  obtain ⟨d1, d2⟩ := divmod (a := highN w h n - 1 - p % highN w h n) hy
  have e4 : cellAt w h (n : Int) ((highN w h n - 1 - p % highN w h n) * wideN w h n + p / highN w h n) = cellXY w h n (p / highN w h n) (highN w h n - 1 - p % highN w h n) := by
    show cellXY w h n (_ % wideN w h n) (_ / wideN w h n) = _
    rw [d1, d2]
  have e5 : cellAt w h ((n : Int) + 1) p = cellXY w h ((n : Int) + 1) (p % highN w h n) (p / highN w h n) := by
    show cellXY w h ((n : Int) + 1) (p % wideN w h ((n : Int) + 1)) (p / wideN w h ((n : Int) + 1)) = _
    rw [e2]
  rw [e3, e4, e5]
  generalize p % highN w h n = x at hx
  generalize p / highN w h n = y at hy
  have : n = 0 ∨ n = 1 ∨ n = 2 ∨ n = 3 := by omega
  rcases this with rfl | rfl | rfl | rfl
  · simp [cellXY, highN]
  · simp [cellXY, highN]
  · simp [cellXY, highN, wideN] at *; congr 1; congr 1; omega
  · simp [cellXY, highN, wideN] at *; omega
/-- A cell is there once. -/
theorem cell_once {w h : Nat} (k : Int) (hw : 0 < w) (hh : 0 < h) {p q : Nat} (hp : p < w * h) (hq : q < w * h) (e : cellAt w h k p = cellAt w h k q) : p = q := by
  have := pos_cell k hw hh hp
  rw [e, pos_cell k hw hh hq] at this
  exact this.symm
end Go.Proofs.Ytkifafdbobhlpaa
