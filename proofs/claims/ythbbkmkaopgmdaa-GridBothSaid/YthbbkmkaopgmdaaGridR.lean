/-
  Layer 22 (grid), with no program in sight: a field and a mask that are both turned.
-/
import Derived.Test.YthbbkmkaopgmdaaGridQ
namespace Go.Proofs.Ythbbkmkaopgmdaa
open Go.RowKit BG
set_option linter.unusedVariables false

/-- Where a place of the turned field stood: column and row. -/
def oldX (wd hg : Nat) (k : Int) (x y : Nat) : Nat := if k % 4 = 0 then x else if k % 4 = 1 then y else if k % 4 = 2 then wd - 1 - x else wd - 1 - y
def oldY (wd hg : Nat) (k : Int) (x y : Nat) : Nat := if k % 4 = 0 then y else if k % 4 = 1 then hg - 1 - x else if k % 4 = 2 then hg - 1 - y else x
theorem old_xy {wd hg : Nat} (k : Int) {x y : Nat} (hx : x < wideN wd hg k) (hy : y < highN wd hg k) : cellXY wd hg k x y = oldY wd hg k x y * wd + oldX wd hg k x y ∧ oldX wd hg k x y < wd ∧ oldY wd hg k x y < hg := by
  have q : k % 4 = 0 ∨ k % 4 = 1 ∨ k % 4 = 2 ∨ k % 4 = 3 := by omega
  unfold wideN at hx
  unfold highN at hy
  unfold cellXY oldX oldY
  rcases q with q | q | q | q <;> simp [q] at hx hy ⊢ <;> omega
theorem old_place {F R V h : Nat} (k : Int) (hV : 1 ≤ V) (hh : 1 ≤ h) (hVF : V ≤ F) (hhR : h ≤ R) {x y a b : Nat} (hx : x < wideN (F - V + 1) (R - h + 1) k) (hy : y < highN (F - V + 1) (R - h + 1) k) (ha : a < wideN V h k) (hb : b < highN V h k) : cellXY F R k (x + a) (y + b) = (oldY (F - V + 1) (R - h + 1) k x y + oldY V h k a b) * F + (oldX (F - V + 1) (R - h + 1) k x y + oldX V h k a b) := by
  have q : k % 4 = 0 ∨ k % 4 = 1 ∨ k % 4 = 2 ∨ k % 4 = 3 := by omega
  unfold wideN at hx ha
  unfold highN at hy hb
  unfold cellXY oldX oldY
  rcases q with q | q | q | q <;> simp [q] at hx hy ha hb ⊢
  · rw [show R - 1 - (x + a) = R - h - x + (h - 1 - a) by omega]
  · rw [show R - 1 - (y + b) = R - h - y + (h - 1 - b) by omega, show F - 1 - (x + a) = F - V - x + (V - 1 - a) by omega]
  · omega
theorem both_parts {F R V h : Nat} (k : Int) (hVF : V ≤ F) (hhR : h ≤ R) : wideN (F - V + 1) (R - h + 1) k = wideN F R k - wideN V h k + 1 ∧ highN (F - V + 1) (R - h + 1) k = highN F R k - highN V h k + 1 ∧ wideN V h k ≤ wideN F R k ∧ highN V h k ≤ highN F R k := by
  unfold wideN highN
  split <;> omega
theorem both_at {F R V h n : Nat} (k : Int) (hV : 1 ≤ V) (hh : 1 ≤ h) (hVF : V ≤ F) (hhR : h ≤ R) (hn : n = V * h) {x y j : Nat} (hx : x < wideN (F - V + 1) (R - h + 1) k) (hy : y < highN (F - V + 1) (R - h + 1) k) (hj : j < n) :
    cellAt F R k (atP (wideN F R k) (wideN V h k) x y j) = atP F V (oldX (F - V + 1) (R - h + 1) k x y) (oldY (F - V + 1) (R - h + 1) k x y) (cellAt V h k j) ∧ atP (wideN F R k) (wideN V h k) x y j < F * R := by
  obtain ⟨b1, b2, b3, b4⟩ := both_parts k hVF hhR
  have wp := wide_pos (w := V) (h := h) k (by omega) (by omega)
  have hs := size_eq V h k
  have ha : j % wideN V h k < wideN V h k := Nat.mod_lt _ wp.1
  have hb : j / wideN V h k < highN V h k := Nat.div_lt_of_lt_mul (by rw [hs]; omega)
  have hO := old_place k hV hh hVF hhR hx hy ha hb
  obtain ⟨o1, o2, o3⟩ := old_xy k ha hb
  have hxa : x + j % wideN V h k < wideN F R k := by omega
  have hyb : y + j / wideN V h k < highN F R k := by omega
  have hd := divmod (a := y + j / wideN V h k) hxa
  have e : atP (wideN F R k) (wideN V h k) x y j = (y + j / wideN V h k) * wideN F R k + (x + j % wideN V h k) := by unfold atP; omega
  constructor
  · rw [e]
    unfold cellAt
    rw [hd.1, hd.2, hO, o1]
    have hd2 := divmod (a := oldY V h k (j % wideN V h k) (j / wideN V h k)) o2
    unfold atP
    rw [hd2.1, hd2.2]
    omega
  · rw [e, ← size_eq F R k]
    have h3 := Nat.mul_le_mul_right (wideN F R k) (show y + j / wideN V h k + 1 ≤ highN F R k by omega)
    rw [Nat.add_mul, Nat.one_mul, Nat.mul_comm (highN F R k)] at h3
    omega
theorem both_stands {F R V h n : Nat} {k : Int} {xs ys : List Int} {s t : ByteArray} (hV : 1 ≤ V) (hh : 1 ≤ h) (hVF : V ≤ F) (hhR : h ≤ R) (hn : n = V * h) (ht : ∀ j, j < F * R → byteAt t j = byteAt s (cellAt F R k j)) (hy : ∀ j, j < n → cls ys j = cls xs (cellAt V h k j)) {x y : Nat} (hx : x < wideN (F - V + 1) (R - h + 1) k) (hy2 : y < highN (F - V + 1) (R - h + 1) k) :
    standsv ys n t (wideN F R k) (wideN V h k) x y = standsv xs n s F V (oldX (F - V + 1) (R - h + 1) k x y) (oldY (F - V + 1) (R - h + 1) k x y) := by
  have hat := fun j (hj : j < n) => both_at (n := n) k hV hh hVF hhR hn hx hy2 hj
  have hiff : standsv ys n t (wideN F R k) (wideN V h k) x y = true ↔ standsv xs n s F V (oldX (F - V + 1) (R - h + 1) k x y) (oldY (F - V + 1) (R - h + 1) k x y) = true := by
    unfold standsv
    rw [List.all_eq_true, List.all_eq_true]
    constructor
    · intro H p hp
      have hp := List.mem_range.1 hp
      have hpp := posOf_lt (w := V) (h := h) (i := p) k (by omega) (by omega) (by omega)
      have h1 := H (posOf V h k p) (List.mem_range.2 (by omega))
      have h2 := hat (posOf V h k p) (by omega)
      rw [ht _ h2.2, hy _ (by omega), h2.1, cell_pos k (by omega) (by omega) (by omega)] at h1
      exact h1
    · intro H j hj
      have hj := List.mem_range.1 hj
      have h2 := hat j hj
      have h1 := H (cellAt V h k j) (List.mem_range.2 (by have := cell_lt (w := V) (h := h) (p := j) k (by omega) (by omega) (by omega); omega))
      rw [ht _ h2.2, hy _ hj, h2.1]
      exact h1
  cases h1 : standsv xs n s F V (oldX (F - V + 1) (R - h + 1) k x y) (oldY (F - V + 1) (R - h + 1) k x y)
  · cases h2 : standsv ys n t (wideN F R k) (wideN V h k) x y
    · rfl
    · rw [h1, h2] at hiff; exact absurd (hiff.1 rfl) (by decide)
  · rw [hiff.2 h1]
/-- How many there are, column by column. -/
def onesI (g : Nat → Bool) (n : Nat) : Int := BG.sumTo n fun i => if g i = true then 1 else 0
theorem places_row {xs : List Int} {n : Nat} {s : ByteArray} {F V : Nat} (hV : 1 ≤ V) (hVF : V ≤ F) (y : Nat) : ∀ d, d ≤ F - V + 1 → ((placesL xs n s F V (y * F + d)).length : Int) = (placesL xs n s F V (y * F)).length + onesI (fun x => standsv xs n s F V x y) d := by
  intro d
  induction d with
  | zero => intro _; simp [onesI, BG.sumTo]
  | succ d ih =>
    intro hd
    have ih := ih (by omega)
    obtain ⟨hk, _, _⟩ := keep_at (xs := xs) (n := n) (s := s) (x := d) (y := y) hV hVF (by omega)
    have e : onesI (fun x => standsv xs n s F V x y) (d + 1) = onesI (fun x => standsv xs n s F V x y) d + if standsv xs n s F V d y = true then 1 else 0 := rfl
    rw [e, ← Nat.add_assoc]
    cases hst : standsv xs n s F V d y
    · rw [placesL_no (by rw [hk, hst]), ih]; simp
    · rw [placesL_yes (by rw [hk, hst]), List.length_append, Int.natCast_add, ih]; simp; omega
theorem places_count {xs : List Int} {n : Nat} {s : ByteArray} {F V : Nat} (hV : 1 ≤ V) (hVF : V ≤ F) : ∀ Y, ((placesL xs n s F V (Y * F)).length : Int) = BG.sumTo (Y * (F - V + 1)) fun q => if standsv xs n s F V (q % (F - V + 1)) (q / (F - V + 1)) = true then 1 else 0
  | 0 => by simp [placesL, BG.sumTo]
  | Y + 1 => by
    have ih := places_count (xs := xs) (n := n) (s := s) hV hVF Y
    have h1 := places_row (xs := xs) (n := n) (s := s) hV hVF Y (F - V + 1) (Nat.le_refl _)
    rw [placesL_row hV hVF Y] at h1
    rw [h1, ih, Nat.add_mul, Nat.one_mul, sumTo_append]
    congr 1
    unfold onesI
    refine sumTo_congr fun i hi => ?_
    have hd := divmod (a := Y) hi
    show (if standsv xs n s F V i Y = true then (1 : Int) else 0) = if standsv xs n s F V ((Y * (F - V + 1) + i) % (F - V + 1)) ((Y * (F - V + 1) + i) / (F - V + 1)) = true then 1 else 0
    rw [hd.1, hd.2]
/-- A sum over cells that are turned is the sum. -/
theorem sum_turned {w h : Nat} (k : Int) (hw : 0 < w) (hh : 0 < h) (g : Nat → Int) : BG.sumTo (w * h) (fun p => g (cellAt w h k p)) = BG.sumTo (w * h) g := by
  have h1 : BG.sumTo (w * h) (fun p => g (cellAt w h k p)) = BG.sumTo (w * h) fun p => BG.sumTo (w * h) fun i => if i = cellAt w h k p then g i else 0 := by
    refine sumTo_congr fun p hp => ?_
    rw [sumTo_one (cellAt w h k p) (cell_lt k hw hh hp) _ fun i _ hne => if_neg hne, if_pos rfl]
  rw [h1, sumTo_swap]
  refine sumTo_congr fun i hi => ?_
  rw [sumTo_one (posOf w h k i) (posOf_lt k hw hh hi) _ fun p hp hne => if_neg fun e => hne (by rw [e, pos_cell k hw hh hp]), if_pos (cell_pos k hw hh hi).symm]
theorem old_div {wd hg : Nat} (k : Int) {x y : Nat} (hx : x < wideN wd hg k) (hy : y < highN wd hg k) : cellXY wd hg k x y % wd = oldX wd hg k x y ∧ cellXY wd hg k x y / wd = oldY wd hg k x y := by
  obtain ⟨h1, h2, _⟩ := old_xy k hx hy
  have hd := divmod (a := oldY wd hg k x y) h2
  rw [h1]
  exact ⟨hd.2, hd.1⟩
theorem both_count {F R V h n : Nat} {k : Int} {xs ys : List Int} {s t : ByteArray} (hV : 1 ≤ V) (hh : 1 ≤ h) (hVF : V ≤ F) (hhR : h ≤ R) (hn : n = V * h) (ht : ∀ j, j < F * R → byteAt t j = byteAt s (cellAt F R k j)) (hy : ∀ j, j < n → cls ys j = cls xs (cellAt V h k j)) :
    (placesL ys n t (wideN F R k) (wideN V h k) ((highN F R k - highN V h k + 1) * wideN F R k)).length = (placesL xs n s F V ((R - h + 1) * F)).length := by
  obtain ⟨b1, b2, b3, b4⟩ := both_parts k hVF hhR
  have wp := wide_pos (w := V) (h := h) k (by omega) (by omega)
  have h1 := places_count (xs := ys) (n := n) (s := t) (F := wideN F R k) (V := wideN V h k) (by omega) b3 (highN F R k - highN V h k + 1)
  have h2 := places_count (xs := xs) (n := n) (s := s) hV hVF (R - h + 1)
  have hw : 0 < F - V + 1 := by omega
  have hg : 0 < R - h + 1 := by omega
  rw [← b1, ← b2] at h1
  have hs := size_eq (F - V + 1) (R - h + 1) k
  have h3 : ((placesL ys n t (wideN F R k) (wideN V h k) (highN (F - V + 1) (R - h + 1) k * wideN F R k)).length : Int) = ((placesL xs n s F V ((R - h + 1) * F)).length : Int) := by
    rw [h1, h2, Nat.mul_comm (highN (F - V + 1) (R - h + 1) k), hs, Nat.mul_comm (R - h + 1)]
    rw [← sum_turned k hw hg fun q => if standsv xs n s F V (q % (F - V + 1)) (q / (F - V + 1)) = true then 1 else 0]
    refine sumTo_congr fun p hp => ?_
    have hx : p % wideN (F - V + 1) (R - h + 1) k < wideN (F - V + 1) (R - h + 1) k := Nat.mod_lt _ (wide_pos k hw hg).1
    have hy2 : p / wideN (F - V + 1) (R - h + 1) k < highN (F - V + 1) (R - h + 1) k := Nat.div_lt_of_lt_mul (by rw [hs]; exact hp)
    rw [both_stands hV hh hVF hhR hn ht hy hx hy2]
    obtain ⟨o1, o2⟩ := old_div k hx hy2
    unfold cellAt
    rw [o1, o2]
  rw [b2] at h3
  exact Int.ofNat_inj.1 h3
/-- A place of the turned field is a place of the field, turned. -/
theorem both_there {F R V h n : Nat} {k : Int} {xs ys : List Int} {s t : ByteArray} (hV : 1 ≤ V) (hh : 1 ≤ h) (hVF : V ≤ F) (hhR : h ≤ R) (hn : n = V * h) (ht : ∀ j, j < F * R → byteAt t j = byteAt s (cellAt F R k j)) (hy : ∀ j, j < n → cls ys j = cls xs (cellAt V h k j)) {j : Nat} (hj : j ∈ placesL ys n t (wideN F R k) (wideN V h k) ((highN F R k - highN V h k + 1) * wideN F R k)) :
    j % wideN F R k < wideN (F - V + 1) (R - h + 1) k ∧ j / wideN F R k < highN (F - V + 1) (R - h + 1) k ∧ ∃ o, o ∈ placesL xs n s F V ((R - h + 1) * F) ∧ o % F = cellXY (F - V + 1) (R - h + 1) k (j % wideN F R k) (j / wideN F R k) % (F - V + 1) ∧ o / F = cellXY (F - V + 1) (R - h + 1) k (j % wideN F R k) (j / wideN F R k) / (F - V + 1) := by
  obtain ⟨b1, b2, b3, b4⟩ := both_parts k hVF hhR
  have hk := (List.mem_filter.1 hj).2
  have hr := List.mem_range.1 (List.mem_filter.1 hj).1
  unfold keepb at hk
  rw [Bool.and_eq_true, decide_eq_true_eq] at hk
  have hx : j % wideN F R k < wideN (F - V + 1) (R - h + 1) k := by omega
  have hy2 : j / wideN F R k < highN (F - V + 1) (R - h + 1) k := by
    rw [b2]
    exact Nat.div_lt_of_lt_mul (by rw [Nat.mul_comm]; exact hr)
  refine ⟨hx, hy2, ?_⟩
  obtain ⟨o1, o2⟩ := old_div k hx hy2
  obtain ⟨_, p1, p2⟩ := old_xy k hx hy2
  have hst := hk.2
  rw [both_stands hV hh hVF hhR hn ht hy hx hy2] at hst
  obtain ⟨k1, k2, k3⟩ := keep_at (xs := xs) (n := n) (s := s) (y := oldY (F - V + 1) (R - h + 1) k (j % wideN F R k) (j / wideN F R k)) hV hVF p1
  refine ⟨_, List.mem_filter.2 ⟨List.mem_range.2 ?_, by rw [k1]; exact hst⟩, by rw [k2, o1], by rw [k3, o2]⟩
  have h3 := Nat.mul_le_mul_right F (show oldY (F - V + 1) (R - h + 1) k (j % wideN F R k) (j / wideN F R k) + 1 ≤ R - h + 1 by omega)
  rw [Nat.add_mul, Nat.one_mul] at h3
  omega
end Go.Proofs.Ythbbkmkaopgmdaa
