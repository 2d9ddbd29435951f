/-
  Layer 22 (grid), with no program in sight: a mask stands just where its classes' rows have all their marks.
-/
import Derived.Test.YthbbkmkaopgmdaaWGridJ
import Derived.Test.YthbbkmkaopgmdaaWBlk9
namespace Go.Proofs.Ythbbkmkaopgmdaa
open Go.RowKit BG
set_option linter.unusedVariables false

theorem posk_parts {F V k : Nat} (hV : 1 ≤ V) (hVF : V ≤ F) : posk F V k / F = k / V ∧ posk F V k % F = k % V := by
  have h1 : k % V < F := Nat.lt_of_lt_of_le (Nat.mod_lt _ (by omega)) hVF
  unfold posk
  constructor
  · rw [Nat.mul_comm, Nat.mul_add_div (by omega), Nat.div_eq_of_lt h1, Nat.add_zero]
  · rw [Nat.mul_comm, Nat.mul_add_mod, Nat.mod_eq_of_lt h1]
theorem posk_inj {F V a b : Nat} (hV : 1 ≤ V) (hVF : V ≤ F) (h : posk F V a = posk F V b) : a = b := by
  have h1 := posk_parts (k := a) hV hVF
  have h2 := posk_parts (k := b) hV hVF
  rw [h] at h1
  have e1 : a / V = b / V := by rw [← h1.1, h2.1]
  have e2 : a % V = b % V := by rw [← h1.2, h2.2]
  rw [← Nat.div_add_mod a V, ← Nat.div_add_mod b V, e1, e2]
/-- How many of a class's elements stand, moved by i. -/
def cntH (xs : List Int) (F V : Nat) (s : ByteArray) (x : Cl) (i q : Nat) : Nat := (List.range q).countP fun k => decide (cls xs k = x) && hasv x (byteAt s (i + posk F V k))
theorem cntH_succ (xs : List Int) (F V : Nat) (s : ByteArray) (x : Cl) (i q : Nat) : cntH xs F V s x i (q + 1) = cntH xs F V s x i q + if (decide (cls xs q = x) && hasv x (byteAt s (i + posk F V q))) = true then 1 else 0 := by
  unfold cntH
  rw [List.range_succ, List.countP_append, List.countP_singleton]
theorem rowN_nth {xs : List Int} {F V : Nat} {x : Cl} {L q j : Nat} (h : j < L) : nth (rowN xs F V x L q) j = if hitk xs F V x q j = true then 1 else 0 := nth_mk h
theorem hitk_iff {xs : List Int} {F V : Nat} {x : Cl} {q j : Nat} : hitk xs F V x q j = true ↔ ∃ k, k < q ∧ cls xs k = x ∧ posk F V k = j := by
  unfold hitk
  rw [List.any_eq_true]
  constructor
  · rintro ⟨k, hk, h⟩
    rw [Bool.and_eq_true, decide_eq_true_eq, beq_iff_eq] at h
    exact ⟨k, List.mem_range.1 hk, h.1, h.2⟩
  · rintro ⟨k, hk, h1, h2⟩
    exact ⟨k, List.mem_range.2 hk, by rw [Bool.and_eq_true, decide_eq_true_eq, beq_iff_eq]; exact ⟨h1, h2⟩⟩
theorem sl_cnt {xs : List Int} {F V : Nat} {s : ByteArray} {x : Cl} {L i : Nat} (hV : 1 ≤ V) (hVF : V ≤ F) (hi : i + L ≤ s.size) : ∀ q, (∀ k, k < q → posk F V k < L) → BG.sumTo L (fun j => nth (rowN xs F V x L q) j * nth (marksv s x) (i + j)) = ((cntH xs F V s x i q : Nat) : Int) := by
  intro q
  induction q with
  | zero =>
    intro _
    rw [sumTo_zero fun j hj => by rw [rowN_nth hj]; simp [hitk]]
    rfl
  | succ q ih =>
    intro hp
    have hpq := hp q (by omega)
    have ih := ih fun k hk => hp k (by omega)
    rw [cntH_succ]
    by_cases hc : cls xs q = x
    · have e : BG.sumTo L (fun j => nth (rowN xs F V x L (q + 1)) j * nth (marksv s x) (i + j)) = BG.sumTo L (fun j => nth (rowN xs F V x L q) j * nth (marksv s x) (i + j) + if j = posk F V q then nth (marksv s x) (i + j) else 0) := by
        refine sumTo_congr fun j hj => ?_
        rw [rowN_nth hj, rowN_nth hj, hitk_succ, decide_eq_true hc]
        by_cases h1 : j = posk F V q
        · have h2 : hitk xs F V x q j = false := by
            rw [Bool.eq_false_iff]
            intro h
            obtain ⟨k, hk, _, e⟩ := hitk_iff.1 h
            have := posk_inj hV hVF (e.trans h1)
            omega
          have h3 : (posk F V q == j) = true := beq_iff_eq.2 h1.symm
          rw [h2, h3, if_pos h1]; simp
        · have h3 : (posk F V q == j) = false := beq_eq_false_iff_ne.2 fun e => h1 e.symm
          rw [h3, if_neg h1]; simp
      rw [e, sumTo_add, ih, sumTo_one (posk F V q) hpq _ (fun j _ hne => if_neg hne), if_pos rfl]
      have hm : nth (marksv s x) (i + posk F V q) = markOf s x (i + posk F V q) := nth_mk (by omega)
      rw [hm]
      unfold markOf
      rw [decide_eq_true hc]
      cases hasv x (byteAt s (i + posk F V q)) <;> simp
    · have e : BG.sumTo L (fun j => nth (rowN xs F V x L (q + 1)) j * nth (marksv s x) (i + j)) = BG.sumTo L (fun j => nth (rowN xs F V x L q) j * nth (marksv s x) (i + j)) := by rw [rowN_no (decide_eq_false hc)]
      rw [e, ih, decide_eq_false hc]; simp
theorem countP_eq_imp {p r : Nat → Bool} (h : ∀ k, r k = true → p k = true) : ∀ n, ((List.range n).countP r = (List.range n).countP p ↔ ∀ k, k < n → p k = true → r k = true) := by
  have hle : ∀ n, (List.range n).countP r ≤ (List.range n).countP p := fun n => List.countP_mono_left fun k _ => h k
  intro n
  induction n with
  | zero => simp
  | succ n ih =>
    rw [List.range_succ, List.countP_append, List.countP_append, List.countP_singleton, List.countP_singleton]
    have hl := hle n
    constructor
    · intro e
      cases hr : r n
      · cases hp : p n
        · rw [hr, hp] at e
          simp only [Bool.false_eq_true, if_false] at e
          have := ih.1 (by omega)
          intro k hk hk2
          rcases Nat.lt_or_ge k n with h1 | h1
          · exact this k h1 hk2
          · obtain rfl : k = n := by omega
            rw [hp] at hk2; cases hk2
        · rw [hr, hp] at e
          simp only [Bool.false_eq_true, if_false, if_true] at e
          omega
      · have hp := h n hr
        rw [hr, hp] at e
        simp only [if_true] at e
        have := ih.1 (by omega)
        intro k hk hk2
        rcases Nat.lt_or_ge k n with h1 | h1
        · exact this k h1 hk2
        · obtain rfl : k = n := by omega
          exact hr
    · intro hk
      have e1 := ih.2 fun k h1 h2 => hk k (by omega) h2
      rw [e1]
      cases hp : p n
      · have : r n = false := by
          cases hr : r n
          · rfl
          · rw [h n hr] at hp; cases hp
        rw [this]
      · rw [hk n (by omega) hp]
theorem cnt_all {xs : List Int} {F V : Nat} {s : ByteArray} {x : Cl} {i n : Nat} : cntH xs F V s x i n = cntN xs x n ↔ ∀ k, k < n → cls xs k = x → hasv x (byteAt s (i + posk F V k)) = true := by
  unfold cntH cntN
  rw [countP_eq_imp (p := fun k => decide (cls xs k = x)) (r := fun k => decide (cls xs k = x) && hasv x (byteAt s (i + posk F V k))) fun k h => by rw [Bool.and_eq_true] at h; exact h.1]
  constructor
  · intro h k hk e
    have := h k hk (decide_eq_true e)
    rw [Bool.and_eq_true] at this
    exact this.2
  · intro h k hk e
    rw [Bool.and_eq_true]
    exact ⟨e, h k hk (of_decide_eq_true e)⟩
/-- Does a sum of a class differ from how many there are? -/
def badC (xs : List Int) (F V L n : Nat) (s : ByteArray) (x : Cl) (i : Nat) : Bool := decide (i < s.size - L + 1) && !(nth (slidev (nth (rowN xs F V x L n)) (nth (marksv s x)) L s.size) i == ((cntN xs x n : Nat) : Int))
theorem badC_iff {xs : List Int} {F V L n : Nat} {s : ByteArray} {x : Cl} {i : Nat} (hV : 1 ≤ V) (hVF : V ≤ F) (hL : L ≤ s.size) (hn : n ≤ 1000000) (hp : ∀ k, k < n → posk F V k < L) (hi : i < s.size - L + 1) : badC xs F V L n s x i = false ↔ ∀ k, k < n → cls xs k = x → hasv x (byteAt s (i + posk F V k)) = true := by
  have h1 : nth (slidev (nth (rowN xs F V x L n)) (nth (marksv s x)) L s.size) i = ((cntH xs F V s x i n : Nat) : Int) := by
    unfold slidev
    rw [nth_mk hi]
    unfold sl
    rw [sl_cnt hV hVF (by omega) n hp]
    have : cntH xs F V s x i n ≤ n := by
      unfold cntH
      exact Nat.le_trans List.countP_le_length (by simp)
    omega
  unfold badC
  rw [h1, decide_eq_true hi, Bool.true_and, Bool.not_eq_false', beq_iff_eq, ← cnt_all]
  omega
/-- Is a place struck by one of the first kinds? -/
def struckT (xs : List Int) (F V L n : Nat) (s : ByteArray) (q i : Nat) : Bool := ((kindsC xs n).take q).any fun x => badC xs F V L n s x i
theorem struck_stands {xs : List Int} {F V L n : Nat} {s : ByteArray} {i : Nat} (hV : 1 ≤ V) (hVF : V ≤ F) (hL : L ≤ s.size) (hn : n ≤ 1000000) (hp : ∀ k, k < n → posk F V k < L) (hi : i < s.size - L + 1) : struckT xs F V L n s (kindsC xs n).length i = !standsv xs n s F V (i % F) (i / F) := by
  have hat : ∀ k, atP F V (i % F) (i / F) k = i + posk F V k := fun k => by
    have h1 := Nat.div_add_mod i F
    unfold atP posk
    rw [Nat.add_mul, Nat.mul_comm (i / F) F]
    omega
  have h : struckT xs F V L n s (kindsC xs n).length i = false ↔ standsv xs n s F V (i % F) (i / F) = true := by
    unfold struckT standsv
    rw [List.take_length, List.any_eq_false, List.all_eq_true]
    constructor
    · intro h k hk
      have hk := List.mem_range.1 hk
      rw [hat]
      by_cases hf : cls xs k = fullv
      · rw [hf]; exact has_full _
      · have h1 := h (cls xs k) (mem_kinds.2 ⟨hf, k, hk, rfl⟩)
        rw [Bool.not_eq_true] at h1
        exact (badC_iff hV hVF hL hn hp hi).1 h1 k hk rfl
    · intro h x hx
      rw [Bool.not_eq_true]
      refine (badC_iff hV hVF hL hn hp hi).2 fun k hk e => ?_
      have := h k (List.mem_range.2 hk)
      rw [hat, e] at this
      exact this
  cases h1 : standsv xs n s F V (i % F) (i / F)
  · cases h2 : struckT xs F V L n s (kindsC xs n).length i
    · rw [h.1 h2] at h1; cases h1
    · rfl
  · rw [h.2 h1]; rfl
/-- Is a place one where the mask stands? -/
def keepb (xs : List Int) (n : Nat) (s : ByteArray) (F V i : Nat) : Bool := decide (i % F < F - V + 1) && standsv xs n s F V (i % F) (i / F)
def placesL (xs : List Int) (n : Nat) (s : ByteArray) (F V q : Nat) : List Nat := (List.range q).filter (keepb xs n s F V)
def flatP (F : Nat) (l : List Nat) : List Int := l.flatMap fun i => [((i % F : Nat) : Int), ((i / F : Nat) : Int)]
theorem flatP_append (F : Nat) (a b : List Nat) : flatP F (a ++ b) = flatP F a ++ flatP F b := by unfold flatP; rw [List.flatMap_append]
theorem flatP_one (F i : Nat) : flatP F [i] = [((i % F : Nat) : Int), ((i / F : Nat) : Int)] := by simp [flatP]
theorem flatP_length (F : Nat) (l : List Nat) : (flatP F l).length = 2 * l.length := by
  unfold flatP
  induction l with
  | nil => rfl
  | cons a l ih => rw [List.flatMap_cons, List.length_append, ih, List.length_cons]; simp; omega
theorem placesL_yes {xs : List Int} {n : Nat} {s : ByteArray} {F V q : Nat} (h : keepb xs n s F V q = true) : placesL xs n s F V (q + 1) = placesL xs n s F V q ++ [q] := by
  unfold placesL; rw [List.range_succ, List.filter_append]; simp [h]
theorem placesL_no {xs : List Int} {n : Nat} {s : ByteArray} {F V q : Nat} (h : keepb xs n s F V q = false) : placesL xs n s F V (q + 1) = placesL xs n s F V q := by
  unfold placesL; rw [List.range_succ, List.filter_append]; simp [h]
theorem placesL_le (xs : List Int) (n : Nat) (s : ByteArray) (F V q : Nat) : (placesL xs n s F V q).length ≤ q := by
  unfold placesL; exact Nat.le_trans (List.length_filter_le _ _) (by simp)
/-- Beyond the last column where it may stand nothing is added. -/
theorem placesL_skip {xs : List Int} {n : Nat} {s : ByteArray} {F V : Nat} (hV : 1 ≤ V) (hVF : V ≤ F) (y : Nat) : ∀ d, F - V + 1 + d ≤ F → placesL xs n s F V (y * F + (F - V + 1) + d) = placesL xs n s F V (y * F + (F - V + 1)) := by
  intro d
  induction d with
  | zero => intro _; rfl
  | succ d ih =>
    intro h
    have e : (y * F + (F - V + 1) + d) % F = F - V + 1 + d := by rw [Nat.add_assoc, Nat.mul_comm, Nat.mul_add_mod, Nat.mod_eq_of_lt (by omega)]
    rw [show y * F + (F - V + 1) + (d + 1) = y * F + (F - V + 1) + d + 1 by omega, placesL_no, ih (by omega)]
    unfold keepb
    rw [e, decide_eq_false (by omega)]; rfl
theorem placesL_row {xs : List Int} {n : Nat} {s : ByteArray} {F V : Nat} (hV : 1 ≤ V) (hVF : V ≤ F) (y : Nat) : placesL xs n s F V (y * F + (F - V + 1)) = placesL xs n s F V ((y + 1) * F) := by
  have := placesL_skip (xs := xs) (n := n) (s := s) hV hVF y (V - 1) (by omega)
  rw [← this]
  congr 1
  rw [Nat.add_mul]
  omega
theorem small_row {ys : List Int} (h : ∀ j, 0 ≤ nth ys j ∧ nth ys j ≤ 1) : U64 ys ∧ 0 ≤ greatest ys ∧ greatest ys ≤ 1 :=
  ⟨fun j => ⟨(h j).1, Int.le_trans (h j).2 (by decide)⟩, grT_nonneg _ _, grT_le (by decide) (fun j => (h j).2) _⟩
theorem mk_small {n : Nat} {f : Nat → Int} (h : ∀ j, f j = 0 ∨ f j = 1) (j : Nat) : 0 ≤ nth (mk n f) j ∧ nth (mk n f) j ≤ 1 := by
  by_cases hj : j < n
  · rw [nth_mk hj]
    rcases h j with e | e <;> rw [e] <;> decide
  · unfold nth
    rw [List.getD_eq_getElem?_getD, List.getElem?_eq_none (by rw [mk_length]; omega)]
    exact ⟨Int.le_refl 0, by decide⟩
theorem rowN_small (xs : List Int) (F V : Nat) (x : Cl) (L q j : Nat) : 0 ≤ nth (rowN xs F V x L q) j ∧ nth (rowN xs F V x L q) j ≤ 1 := mk_small (fun j => by split; exact .inr rfl; exact .inl rfl) j
theorem marksv_small (s : ByteArray) (x : Cl) (j : Nat) : 0 ≤ nth (marksv s x) j ∧ nth (marksv s x) j ≤ 1 := mk_small (fun j => by unfold markOf; split; exact .inr rfl; exact .inl rfl) j
theorem marksv_len (s : ByteArray) (x : Cl) : (marksv s x).length = s.size := mk_length _ _
theorem ovr_not {x y : Int} (hx : 0 ≤ x) (h : x * y ≤ 18446744073709551615) : ovr x y = false := by
  unfold ovr
  rw [decide_eq_false_iff_not]
  rintro ⟨h0, h1⟩
  have hp : 0 < x := by omega
  have := (Int.ediv_lt_iff_lt_mul hp).1 h1
  rw [Int.mul_comm] at this
  omega
theorem row_good {xs : List Int} {F V L n : Nat} {s : ByteArray} {x : Cl} {size : Int} (hL1 : 1 ≤ L) (hL : L ≤ s.size) (hs : s.size ≤ 1000000) (hz : szb L size = true) : bgood (rowN xs F V x L n) (marksv s x) size := by
  have g1 := (small_row (rowN_small xs F V x L n)).2
  have g2 := (small_row (marksv_small s x)).2
  have hsl : slb (rowN xs F V x L n).length (marksv s x).length = true := by
    rw [rowN_len, marksv_len]
    exact decide_eq_true (by omega)
  refine ⟨?_, hsl⟩
  unfold berrv berr
  rw [if_pos hsl, rowN_len, if_pos hz]
  have p : 0 ≤ greatest (rowN xs F V x L n) * greatest (marksv s x) ∧ greatest (rowN xs F V x L n) * greatest (marksv s x) ≤ 1 := ⟨Int.mul_nonneg g1.1 g2.1, by have := Int.mul_le_mul g1.2 g2.2 g2.1 (by decide : (0 : Int) ≤ 1); simpa using this⟩
  have q : greatest (rowN xs F V x L n) * greatest (marksv s x) * (L : Int) ≤ 1000000 := by
    have := Int.mul_le_mul p.2 (show (L : Int) ≤ 1000000 by omega) (by omega) (by decide : (0 : Int) ≤ 1)
    simpa using this
  rw [ovr_not g1.1 (by omega), if_neg (by decide), ovr_not p.1 (by omega), if_neg (by decide)]
theorem struckT_succ {xs : List Int} {F V L n : Nat} {s : ByteArray} {q : Nat} (hq : q < (kindsC xs n).length) (i : Nat) : struckT xs F V L n s (q + 1) i = (struckT xs F V L n s q i || badC xs F V L n s ((kindsC xs n)[q]'hq) i) := by
  unfold struckT
  rw [List.take_add_one, List.any_append, List.getElem?_eq_getElem hq]
  simp
theorem struckT_zero (xs : List Int) (F V L n : Nat) (s : ByteArray) (i : Nat) : struckT xs F V L n s 0 i = false := by simp [struckT]
/-- Which places are struck behind the first kinds, and the first sums of the next one. -/
def strR (N : Nat) (g : Nat → Bool) : List Value := (List.range N).map fun i => .bool (g i)
def stepT (f b : Nat → Bool) (p i : Nat) : Bool := f i || (decide (i < p) && b i)
theorem strR_len (N : Nat) (g : Nat → Bool) : (strR N g).length = N := by simp [strR]
theorem strR_at (N : Nat) (g : Nat → Bool) {i : Nat} (h : i < N) : (strR N g)[i]? = some (.bool (g i)) := by unfold strR; rw [List.getElem?_map, List.getElem?_range h]; rfl
theorem strR_congr {N : Nat} {f g : Nat → Bool} (h : ∀ i, i < N → f i = g i) : strR N f = strR N g := by
  unfold strR
  exact List.map_congr_left fun i hi => by rw [h i (List.mem_range.1 hi)]
theorem strR_set {N : Nat} {f b : Nat → Bool} {p : Nat} (h : p < N) : (strR N (stepT f b p)).set p (.bool (f p || b p)) = strR N (stepT f b (p + 1)) := by
  refine List.ext_getElem (by simp [strR]) fun i h1 h2 => ?_
  rw [List.getElem_set]
  simp only [strR, List.getElem_map, List.getElem_range]
  by_cases e : p = i
  · subst e; rw [if_pos rfl]; simp [stepT]
  · rw [if_neg e]
    unfold stepT
    by_cases h3 : i < p
    · rw [decide_eq_true h3, decide_eq_true (by omega)]
    · rw [decide_eq_false h3, decide_eq_false (by omega)]
theorem strR_false (N : Nat) : strR N (fun _ => false) = List.replicate N (.bool false) := by
  unfold strR
  rw [List.map_const', List.length_range]
end Go.Proofs.Ythbbkmkaopgmdaa
