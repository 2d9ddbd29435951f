/-
  Texts of one claim, joined: GridP, TSymb1, THitsP, RangeR.
-/
import Derived.Test.YtdejablhpljdfaaGreatQ13
import Derived.Test.YtdejablhpljdfaaGreatQ07
import Derived.Test.YtdejablhpljdfaaGreatQ09
import Derived.Test.YtdejablhpljdfaaGreatQ01
namespace Go.Proofs.YtdejablhpljdfaaGreat
open Go.RowKit BG
set_option linter.unusedVariables false
theorem posk_parts {F V k : Nat} (hV : 1 ≤ V) (hVF : V ≤ F) : posk F V k / F = k / V ∧ posk F V k % F = k % V := by
  have h1 : k % V < F := Nat.lt_of_lt_of_le (Nat.mod_lt _ (by omega)) hVF
  unfold posk
  constructor
  · rw [Nat.mul_comm, Nat.mul_add_div (by omega), Nat.div_eq_of_lt h1, Nat.add_zero]
  · rw [Nat.mul_comm, Nat.mul_add_mod, Nat.mod_eq_of_lt h1]
theorem posk_inj {F V a b : Nat} (hV : 1 ≤ V) (hVF : V ≤ F) (h : posk F V a = posk F V b) : a = b := by
  have h1 := posk_parts (k := a) hV hVF
  have h2 := posk_parts (k := b) hV hVF
  rw [h] at h1
  have e1 : a / V = b / V := by rw [← h1.1, h2.1]
  have e2 : a % V = b % V := by rw [← h1.2, h2.2]
  rw [← Nat.div_add_mod a V, ← Nat.div_add_mod b V, e1, e2]
def cntH (xs : List Int) (F V : Nat) (s : ByteArray) (x : Cl) (i q : Nat) : Nat := (List.range q).countP fun k => decide (cls xs k = x) && hasv x (byteAt s (i + posk F V k))
theorem cntH_succ (xs : List Int) (F V : Nat) (s : ByteArray) (x : Cl) (i q : Nat) : cntH xs F V s x i (q + 1) = cntH xs F V s x i q + if (decide (cls xs q = x) && hasv x (byteAt s (i + posk F V q))) = true then 1 else 0 := by
  unfold cntH
  rw [List.range_succ, List.countP_append, List.countP_singleton]
theorem rowN_nth {xs : List Int} {F V : Nat} {x : Cl} {L q j : Nat} (h : j < L) : nth (rowN xs F V x L q) j = if hitk xs F V x q j = true then 1 else 0 := nth_mk h
theorem hitk_iff {xs : List Int} {F V : Nat} {x : Cl} {q j : Nat} : hitk xs F V x q j = true ↔ ∃ k, k < q ∧ cls xs k = x ∧ posk F V k = j := by
  unfold hitk
  rw [List.any_eq_true]
  constructor
  · rintro ⟨k, hk, h⟩
    rw [Bool.and_eq_true, decide_eq_true_eq, beq_iff_eq] at h
    exact ⟨k, List.mem_range.1 hk, h.1, h.2⟩
  · rintro ⟨k, hk, h1, h2⟩
    exact ⟨k, List.mem_range.2 hk, by rw [Bool.and_eq_true, decide_eq_true_eq, beq_iff_eq]; exact ⟨h1, h2⟩⟩
theorem sl_cnt {xs : List Int} {F V : Nat} {s : ByteArray} {x : Cl} {L i : Nat} (hV : 1 ≤ V) (hVF : V ≤ F) (hi : i + L ≤ s.size) : ∀ q, (∀ k, k < q → posk F V k < L) → BG.sumTo L (fun j => nth (rowN xs F V x L q) j * nth (marksv s x) (i + j)) = ((cntH xs F V s x i q : Nat) : Int) := by
  intro q
  induction q with
  | zero =>
    intro _
    rw [sumTo_zero fun j hj => by rw [rowN_nth hj]; simp [hitk]]
    rfl
  | succ q ih =>
    intro hp
    have hpq := hp q (by omega)
    have ih := ih fun k hk => hp k (by omega)
    rw [cntH_succ]
    by_cases hc : cls xs q = x
    · have e : BG.sumTo L (fun j => nth (rowN xs F V x L (q + 1)) j * nth (marksv s x) (i + j)) = BG.sumTo L (fun j => nth (rowN xs F V x L q) j * nth (marksv s x) (i + j) + if j = posk F V q then nth (marksv s x) (i + j) else 0) := by
        refine sumTo_congr fun j hj => ?_
        rw [rowN_nth hj, rowN_nth hj, hitk_succ, decide_eq_true hc]
        by_cases h1 : j = posk F V q
        · have h2 : hitk xs F V x q j = false := by
            rw [Bool.eq_false_iff]
            intro h
            obtain ⟨k, hk, _, e⟩ := hitk_iff.1 h
            have := posk_inj hV hVF (e.trans h1)
            omega
          have h3 : (posk F V q == j) = true := beq_iff_eq.2 h1.symm
          rw [h2, h3, if_pos h1]; simp
        · have h3 : (posk F V q == j) = false := beq_eq_false_iff_ne.2 fun e => h1 e.symm
          rw [h3, if_neg h1]; simp
      rw [e, sumTo_add, ih, sumTo_one (posk F V q) hpq _ (fun j _ hne => if_neg hne), if_pos rfl]
      have hm : nth (marksv s x) (i + posk F V q) = markOf s x (i + posk F V q) := nth_mk (by omega)
      rw [hm]
      unfold markOf
      rw [decide_eq_true hc]
      cases hasv x (byteAt s (i + posk F V q)) <;> simp
    · have e : BG.sumTo L (fun j => nth (rowN xs F V x L (q + 1)) j * nth (marksv s x) (i + j)) = BG.sumTo L (fun j => nth (rowN xs F V x L q) j * nth (marksv s x) (i + j)) := by rw [rowN_no (decide_eq_false hc)]
      rw [e, ih, decide_eq_false hc]; simp
theorem countP_eq_imp {p r : Nat → Bool} (h : ∀ k, r k = true → p k = true) : ∀ n, ((List.range n).countP r = (List.range n).countP p ↔ ∀ k, k < n → p k = true → r k = true) := by
  have hle : ∀ n, (List.range n).countP r ≤ (List.range n).countP p := fun n => List.countP_mono_left fun k _ => h k
  intro n
  induction n with
  | zero => simp
  | succ n ih =>
    rw [List.range_succ, List.countP_append, List.countP_append, List.countP_singleton, List.countP_singleton]
    have hl := hle n
    constructor
    · intro e
      cases hr : r n
      · cases hp : p n
        · rw [hr, hp] at e
          simp only [Bool.false_eq_true, if_false] at e
          have := ih.1 (by omega)
          intro k hk hk2
          rcases Nat.lt_or_ge k n with h1 | h1
          · exact this k h1 hk2
          · obtain rfl : k = n := by omega
            rw [hp] at hk2; cases hk2
        · rw [hr, hp] at e
          simp only [Bool.false_eq_true, if_false, if_true] at e
          omega
      · have hp := h n hr
        rw [hr, hp] at e
        simp only [if_true] at e
        have := ih.1 (by omega)
        intro k hk hk2
        rcases Nat.lt_or_ge k n with h1 | h1
        · exact this k h1 hk2
        · obtain rfl : k = n := by omega
          exact hr
    · intro hk
      have e1 := ih.2 fun k h1 h2 => hk k (by omega) h2
      rw [e1]
      cases hp : p n
      · have : r n = false := by
          cases hr : r n
          · rfl
          · rw [h n hr] at hp; cases hp
        rw [this]
      · rw [hk n (by omega) hp]
theorem cnt_all {xs : List Int} {F V : Nat} {s : ByteArray} {x : Cl} {i n : Nat} : cntH xs F V s x i n = cntN xs x n ↔ ∀ k, k < n → cls xs k = x → hasv x (byteAt s (i + posk F V k)) = true := by
  unfold cntH cntN
  rw [countP_eq_imp (p := fun k => decide (cls xs k = x)) (r := fun k => decide (cls xs k = x) && hasv x (byteAt s (i + posk F V k))) fun k h => by rw [Bool.and_eq_true] at h; exact h.1]
  constructor
  · intro h k hk e
    have := h k hk (decide_eq_true e)
    rw [Bool.and_eq_true] at this
    exact this.2
  · intro h k hk e
    rw [Bool.and_eq_true]
    exact ⟨e, h k hk (of_decide_eq_true e)⟩
def badC (xs : List Int) (F V L n : Nat) (s : ByteArray) (x : Cl) (i : Nat) : Bool := decide (i < s.size - L + 1) && !(nth (slidev (nth (rowN xs F V x L n)) (nth (marksv s x)) L s.size) i == ((cntN xs x n : Nat) : Int))
theorem badC_iff {xs : List Int} {F V L n : Nat} {s : ByteArray} {x : Cl} {i : Nat} (hV : 1 ≤ V) (hVF : V ≤ F) (hL : L ≤ s.size) (hn : n ≤ 1000000) (hp : ∀ k, k < n → posk F V k < L) (hi : i < s.size - L + 1) : badC xs F V L n s x i = false ↔ ∀ k, k < n → cls xs k = x → hasv x (byteAt s (i + posk F V k)) = true := by
  have h1 : nth (slidev (nth (rowN xs F V x L n)) (nth (marksv s x)) L s.size) i = ((cntH xs F V s x i n : Nat) : Int) := by
    unfold slidev
    rw [nth_mk hi]
    unfold sl
    rw [sl_cnt hV hVF (by omega) n hp]
    have : cntH xs F V s x i n ≤ n := by
      unfold cntH
      exact Nat.le_trans List.countP_le_length (by simp)
    omega
  unfold badC
  rw [h1, decide_eq_true hi, Bool.true_and, Bool.not_eq_false', beq_iff_eq, ← cnt_all]
  omega
def struckT (xs : List Int) (F V L n : Nat) (s : ByteArray) (q i : Nat) : Bool := ((kindsC xs n).take q).any fun x => badC xs F V L n s x i
theorem struck_stands {xs : List Int} {F V L n : Nat} {s : ByteArray} {i : Nat} (hV : 1 ≤ V) (hVF : V ≤ F) (hL : L ≤ s.size) (hn : n ≤ 1000000) (hp : ∀ k, k < n → posk F V k < L) (hi : i < s.size - L + 1) : struckT xs F V L n s (kindsC xs n).length i = !standsv xs n s F V (i % F) (i / F) := by
  have hat : ∀ k, atP F V (i % F) (i / F) k = i + posk F V k := fun k => by
    have h1 := Nat.div_add_mod i F
    unfold atP posk
    rw [Nat.add_mul, Nat.mul_comm (i / F) F]
    omega
  have h : struckT xs F V L n s (kindsC xs n).length i = false ↔ standsv xs n s F V (i % F) (i / F) = true := by
    unfold struckT standsv
    rw [List.take_length, List.any_eq_false, List.all_eq_true]
    constructor
    · intro h k hk
      have hk := List.mem_range.1 hk
      rw [hat]
      by_cases hf : cls xs k = fullv
      · rw [hf]; exact has_full _
      · have h1 := h (cls xs k) (mem_kinds.2 ⟨hf, k, hk, rfl⟩)
        rw [Bool.not_eq_true] at h1
        exact (badC_iff hV hVF hL hn hp hi).1 h1 k hk rfl
    · intro h x hx
      rw [Bool.not_eq_true]
      refine (badC_iff hV hVF hL hn hp hi).2 fun k hk e => ?_
      have := h k (List.mem_range.2 hk)
      rw [hat, e] at this
      exact this
  cases h1 : standsv xs n s F V (i % F) (i / F)
  · cases h2 : struckT xs F V L n s (kindsC xs n).length i
    · rw [h.1 h2] at h1; cases h1
    · rfl
  · rw [h.2 h1]; rfl
def keepb (xs : List Int) (n : Nat) (s : ByteArray) (F V i : Nat) : Bool := decide (i % F < F - V + 1) && standsv xs n s F V (i % F) (i / F)
def placesL (xs : List Int) (n : Nat) (s : ByteArray) (F V q : Nat) : List Nat := (List.range q).filter (keepb xs n s F V)
def flatP (F : Nat) (l : List Nat) : List Int := l.flatMap fun i => [((i % F : Nat) : Int), ((i / F : Nat) : Int)]
theorem flatP_append (F : Nat) (a b : List Nat) : flatP F (a ++ b) = flatP F a ++ flatP F b := by unfold flatP; rw [List.flatMap_append]
theorem flatP_one (F i : Nat) : flatP F [i] = [((i % F : Nat) : Int), ((i / F : Nat) : Int)] := by simp [flatP]
theorem placesL_yes {xs : List Int} {n : Nat} {s : ByteArray} {F V q : Nat} (h : keepb xs n s F V q = true) : placesL xs n s F V (q + 1) = placesL xs n s F V q ++ [q] := by
  unfold placesL; rw [List.range_succ, List.filter_append]; simp [h]
theorem placesL_no {xs : List Int} {n : Nat} {s : ByteArray} {F V q : Nat} (h : keepb xs n s F V q = false) : placesL xs n s F V (q + 1) = placesL xs n s F V q := by
  unfold placesL; rw [List.range_succ, List.filter_append]; simp [h]
theorem placesL_le (xs : List Int) (n : Nat) (s : ByteArray) (F V q : Nat) : (placesL xs n s F V q).length ≤ q := by
  unfold placesL; exact Nat.le_trans (List.length_filter_le _ _) (by simp)
theorem placesL_skip {xs : List Int} {n : Nat} {s : ByteArray} {F V : Nat} (hV : 1 ≤ V) (hVF : V ≤ F) (y : Nat) : ∀ d, F - V + 1 + d ≤ F → placesL xs n s F V (y * F + (F - V + 1) + d) = placesL xs n s F V (y * F + (F - V + 1)) := by
  intro d
  induction d with
  | zero => intro _; rfl
  | succ d ih =>
    intro h
    have e : (y * F + (F - V + 1) + d) % F = F - V + 1 + d := by rw [Nat.add_assoc, Nat.mul_comm, Nat.mul_add_mod, Nat.mod_eq_of_lt (by omega)]
    rw [show y * F + (F - V + 1) + (d + 1) = y * F + (F - V + 1) + d + 1 by omega, placesL_no, ih (by omega)]
    unfold keepb
    rw [e, decide_eq_false (by omega)]; rfl
theorem placesL_row {xs : List Int} {n : Nat} {s : ByteArray} {F V : Nat} (hV : 1 ≤ V) (hVF : V ≤ F) (y : Nat) : placesL xs n s F V (y * F + (F - V + 1)) = placesL xs n s F V ((y + 1) * F) := by
  have := placesL_skip (xs := xs) (n := n) (s := s) hV hVF y (V - 1) (by omega)
  rw [← this]
  congr 1
  rw [Nat.add_mul]
  omega
theorem small_row {ys : List Int} (h : ∀ j, 0 ≤ nth ys j ∧ nth ys j ≤ 1) : U64 ys ∧ 0 ≤ greatest ys ∧ greatest ys ≤ 1 :=
  ⟨fun j => ⟨(h j).1, Int.le_trans (h j).2 (by decide)⟩, grT_nonneg _ _, grT_le (by decide) (fun j => (h j).2) _⟩
theorem mk_small {n : Nat} {f : Nat → Int} (h : ∀ j, f j = 0 ∨ f j = 1) (j : Nat) : 0 ≤ nth (mk n f) j ∧ nth (mk n f) j ≤ 1 := by
  by_cases hj : j < n
  · rw [nth_mk hj]
    rcases h j with e | e <;> rw [e] <;> decide
  · unfold nth
    rw [List.getD_eq_getElem?_getD, List.getElem?_eq_none (by rw [mk_length]; omega)]
    exact ⟨Int.le_refl 0, by decide⟩
theorem rowN_small (xs : List Int) (F V : Nat) (x : Cl) (L q j : Nat) : 0 ≤ nth (rowN xs F V x L q) j ∧ nth (rowN xs F V x L q) j ≤ 1 := mk_small (fun j => by split; exact .inr rfl; exact .inl rfl) j
theorem marksv_small (s : ByteArray) (x : Cl) (j : Nat) : 0 ≤ nth (marksv s x) j ∧ nth (marksv s x) j ≤ 1 := mk_small (fun j => by unfold markOf; split; exact .inr rfl; exact .inl rfl) j
theorem marksv_len (s : ByteArray) (x : Cl) : (marksv s x).length = s.size := mk_length _ _
theorem ovr_not {x y : Int} (hx : 0 ≤ x) (h : x * y ≤ 18446744073709551615) : ovr x y = false := by
  unfold ovr
  rw [decide_eq_false_iff_not]
  rintro ⟨h0, h1⟩
  have hp : 0 < x := by omega
  have := (Int.ediv_lt_iff_lt_mul hp).1 h1
  rw [Int.mul_comm] at this
  omega
theorem row_good {xs : List Int} {F V L n : Nat} {s : ByteArray} {x : Cl} {size : Int} (hL1 : 1 ≤ L) (hL : L ≤ s.size) (hs : s.size ≤ 1000000) (hz : szb L size = true) : bgood (rowN xs F V x L n) (marksv s x) size := by
  have g1 := (small_row (rowN_small xs F V x L n)).2
  have g2 := (small_row (marksv_small s x)).2
  have hsl : slb (rowN xs F V x L n).length (marksv s x).length = true := by
    rw [rowN_len, marksv_len]
    exact decide_eq_true (by omega)
  refine ⟨?_, hsl⟩
  unfold berrv berr
  rw [if_pos hsl, rowN_len, if_pos hz]
  have p : 0 ≤ greatest (rowN xs F V x L n) * greatest (marksv s x) ∧ greatest (rowN xs F V x L n) * greatest (marksv s x) ≤ 1 := ⟨Int.mul_nonneg g1.1 g2.1, by have := Int.mul_le_mul g1.2 g2.2 g2.1 (by decide : (0 : Int) ≤ 1); simpa using this⟩
  have q : greatest (rowN xs F V x L n) * greatest (marksv s x) * (L : Int) ≤ 1000000 := by
    have := Int.mul_le_mul p.2 (show (L : Int) ≤ 1000000 by omega) (by omega) (by decide : (0 : Int) ≤ 1)
    simpa using this
  rw [ovr_not g1.1 (by omega), if_neg (by decide), ovr_not p.1 (by omega), if_neg (by decide)]
theorem struckT_succ {xs : List Int} {F V L n : Nat} {s : ByteArray} {q : Nat} (hq : q < (kindsC xs n).length) (i : Nat) : struckT xs F V L n s (q + 1) i = (struckT xs F V L n s q i || badC xs F V L n s ((kindsC xs n)[q]'hq) i) := by
  unfold struckT
  rw [List.take_add_one, List.any_append, List.getElem?_eq_getElem hq]
  simp
theorem struckT_zero (xs : List Int) (F V L n : Nat) (s : ByteArray) (i : Nat) : struckT xs F V L n s 0 i = false := by simp [struckT]
def strR (N : Nat) (g : Nat → Bool) : List Value := (List.range N).map fun i => .bool (g i)
def stepT (f b : Nat → Bool) (p i : Nat) : Bool := f i || (decide (i < p) && b i)
theorem strR_at (N : Nat) (g : Nat → Bool) {i : Nat} (h : i < N) : (strR N g)[i]? = some (.bool (g i)) := by unfold strR; rw [List.getElem?_map, List.getElem?_range h]; rfl
theorem strR_congr {N : Nat} {f g : Nat → Bool} (h : ∀ i, i < N → f i = g i) : strR N f = strR N g := by
  unfold strR
  exact List.map_congr_left fun i hi => by rw [h i (List.mem_range.1 hi)]
theorem strR_set {N : Nat} {f b : Nat → Bool} {p : Nat} (h : p < N) : (strR N (stepT f b p)).set p (.bool (f p || b p)) = strR N (stepT f b (p + 1)) := by
  refine List.ext_getElem (by simp [strR]) fun i h1 h2 => ?_
  rw [List.getElem_set]
  simp only [strR, List.getElem_map, List.getElem_range]
  by_cases e : p = i
  · subst e; rw [if_pos rfl]; simp [stepT]
  · rw [if_neg e]
    unfold stepT
    by_cases h3 : i < p
    · rw [decide_eq_true h3, decide_eq_true (by omega)]
    · rw [decide_eq_false h3, decide_eq_false (by omega)]
theorem strR_false (N : Nat) : strR N (fun _ => false) = List.replicate N (.bool false) := by
  unfold strR
  rw [List.map_const', List.length_range]
end Go.Proofs.YtdejablhpljdfaaGreat
namespace Go.Proofs.YtdejablhpljdfaaGreat
open Go.RowKit BG
attribute [local go_sem ↓] Go.wp_at_zero Go.wp_at_succ
set_option linter.unusedVariables false
theorem posk_one (q : Nat) : posk 1 1 q = q := by unfold posk; rw [Nat.div_one, Nat.mod_one, Nat.mul_one, Nat.add_zero]
def plcv (xs : List Int) (n : Nat) (x : Cl) : List Int := rowN xs 1 1 x n n
theorem plcv_len (xs : List Int) (n : Nat) (x : Cl) : (plcv xs n x).length = n := rowN_len _ _ _ _ _ _
set_option maxRecDepth 100000 in
set_option maxHeartbeats 2000000 in
theorem plc1_c (A : Option Addr) (cap n : Nat) (xs : List Int) (K : Int) (x : Cl) (i gl gc : Nat) (hl : xs.length = 4 * n) (hi : i < n) (w : World) (hr : Rd .u64 w A xs) (hgl : w.heap[gl]? = some (.cells #[.slice A n cap, .int .i64 K] 61)) (hc : w.heap[gc]? = some x.cells) : Calls Tryz.prog 203 #[.int .i64 (i : Int), .pointer (some ⟨gl, 0, none⟩), .pointer (some ⟨gc, 0, none⟩)] w (Ret (.bool (decide (cls xs i = x))) w) := by
  have hm := hr.1
  have E := fun w1 => eqCl (cls xs i) x w1
  obtain ⟨c0, c1, c2, c3⟩ := cl_cells hc
  have l0 : w.cell? ⟨gl, 0, none⟩ = some (.slice A n cap) := blk_cell hgl 0
  obtain ⟨ad, rfl, d0, d1, d2, d3⟩ := hr.cl hl hi
  have hx1 : 0 ≤ (i : Int) := by omega
  have hx2 : (i : Int) < (n : Int) := by omega
  have hx3 : (i : Int).toNat = i := by omega
  generalize decide (cls xs i = x) = b at *
  generalize cls xs i = z at *
  obtain ⟨z0, z1, z2, z3⟩ := z
  obtain ⟨x0, x1, x2, x3⟩ := x
  dsimp only [Cl.v] at c0 c1 c2 c3 d0 d1 d2 d3 E
  go_enter Tryz.func203, Tryz.ntmps203
  go_wp2_with fail
  have ks_0 := fun s => kw_cell s c0
  have ks_1 := fun s => kw_cell s c1
  have ks_2 := fun s => kw_cell s c2
  have ks_3 := fun s => kw_cell s c3
  have ks_4 := fun s => kw_cell s l0
  have ls_0 := fun s => kw_cell s d0
  have ls_1 := fun s => kw_cell s d1
  have ls_2 := fun s => kw_cell s d2
  have ls_3 := fun s => kw_cell s d3
  refine wp_region_kept (by kernel_rfl) (by kernel_rfl) ?_
  repeat (first | go_big_quiet_skip | (go_big_quiet_want; go_big_quiet_op; go_big_quiet_on))
  refine wpQuiet_nil ?_
  rintro w7 ⟨⟨_, hk7⟩, rfl⟩
  clear ks_0 ks_1 ks_2 ks_3 ks_4 ls_0 ls_1 ls_2 ls_3 c0 c1 c2 c3 d0 d1 d2 d3 E
  go_wp2_with fail
  go_ret
  exact ⟨rfl, hk7⟩
set_option maxRecDepth 100000 in
set_option maxHeartbeats 8000000 in
theorem plcrow_c (A : Option Addr) (cap n : Nat) (xs : List Int) (K : Int) (x : Cl) (gl gc : Nat) (hl : xs.length = 4 * n) (hn : n ≤ 1000000) (w : World) (hr : Rd .u64 w A xs) (hgl : w.heap[gl]? = some (.cells #[.slice A n cap, .int .i64 K] 61)) (hc : w.heap[gc]? = some x.cells) : Calls Tryz.prog 107 #[.int .i64 (n : Nat), .func (.func 203) #[] #[.pointer (some ⟨gl, 0, none⟩), .pointer (some ⟨gc, 0, none⟩)]] w fun e w' => ∃ v, e = .returned v ∧ (Own .u64 108 w.heap.size w' v (plcv xs n x) ∧ Kept w w') := by
  obtain ⟨i1, hif1, hy0, hy1, hy2⟩ := info_parts info_u64n
  have M := fun i hi w1 h a b => plc1_c A cap n xs K x i gl gc hl hi w1 h a b
  have hyes : ∀ q, q < n → decide (cls xs q = x) = true → (rowN xs 1 1 x n q).set q 1 = rowN xs 1 1 x n (q + 1) := fun q hq hy => by
    have h := rowN_yes (xs := xs) (F := 1) (V := 1) (x := x) (L := n) (q := q) (by rw [posk_one]; exact hq) hy
    rwa [posk_one] at h
  have hno : ∀ q, decide (cls xs q = x) = false → rowN xs 1 1 x n (q + 1) = rowN xs 1 1 x n q := fun q hy => rowN_no hy
  have hz := rowN_zero xs 1 1 x n
  have hall : rowN xs 1 1 x n n = plcv xs n x := rfl
  have hlen := rowN_len xs 1 1 x n
  have HYES := Lib.hid hyes
  have HNO := Lib.hid hno
  have HZ := Lib.hid hz
  have HALL := Lib.hid hall
  have HLEN := Lib.hid hlen
  clear hyes hno hz hall hlen
  generalize plcv xs n x = mv at *
  generalize rowN xs 1 1 x n = mt at *
  go_enter Tryz.func107, Tryz.ntmps107
  go_wp2_with (refine wpList_make_full _ rfl (.tmp 7) (.tmp 7) 123 rfl w.heap.size 108 i1 (.int .u64 0) 1 Tryz.underlying123 hif1 hy0 hy1 .i64 .i64 _ _ n rfl rfl (by simp) (by simp) ?b2 ?b3 ?b4 ?_)
  case b2 => rw [hy2]; omega
  case b3 => unfold maxLen; omega
  case b4 => exact Nat.le_refl _
  intro w4 hown4 hgrow
  have K4 : Kept w w4 := (kept_refl w).grown hgrow (Nat.le_refl _) (fun k h => by cases h)
  rw [toList_madeCells_one] at hown4
  have hown5 : w4.ownsRow w.heap.size 108 1 (.slice (some ⟨w.heap.size, 0, none⟩) n n) n ((mt 0).map (Value.int .u64)) := by
    rw [HZ.out, mk_zero']; exact hown4
  clear hown4 hgrow HZ
  have hbz : Hid (w.heap.size ≤ w.heap.size) := Lib.hid (Nat.le_refl _)
  go_wp2_with fail
  go_loopw [11] (fun i wr => ∃ q : Nat, q ≤ n ∧ i = .int .i64 q ∧ wr.ownsRow w.heap.size 108 1 (.slice (some ⟨w.heap.size, 0, none⟩) n n) n ((mt q).map (Value.int .u64)) ∧ Kept w wr) (fun i _ => n - (intOf i).toNat)
  case atStart => exact ⟨0, Nat.zero_le _, rfl, hown5, K4⟩
  case round =>
    clear hown5 K4
    obtain ⟨q, hq, rfl, hown, hk⟩ := hrel
    by_cases hlt : q < n
    · have M := M q hlt wr (hr.kept hk) (blk_kept hk hgl) (blk_kept hk hc)
      have hy := HYES.out q hlt
      have hno := HNO.out q
      have HY := Lib.hid hy
      have HO := Lib.hid hno
      clear hy hno HYES HNO HALL
      generalize decide (cls xs q = x) = y at *
      cases y
      · have HO2 := Lib.hid (HO.out (by first | rfl | trivial))
        clear HO HY
        go_wp2_with fail
        refine M.mono ?_
        rintro e w1 ⟨rfl, hk1⟩
        have hown1 := rowKept hown hk1
        clear M hown
        go_wp2_with fail
        exact ⟨⟨q + 1, by omega, by go_num, by rw [HO2.out]; exact hown1, kept_trans hk hk1⟩, by simp [intOf]; omega⟩
      · have HY2 := Lib.hid (HY.out (by first | rfl | trivial))
        clear HO HY
        go_wp2_with fail
        refine M.mono ?_
        rintro e w1 ⟨rfl, hk1⟩
        have hown1 := rowKept hown hk1
        have hkA := kept_trans hk hk1
        clear M hown hk hk1
        have d0 := World.ownsRow.cellAt hown1 q (by omega)
        rw [List.getElem?_map, List.getElem?_eq_getElem (by rw [HLEN.out]; omega), Option.map_some] at d0
        have f0 := World.ownsRow.frozenAt hown1 q
        have S := World.ownsRow.stored hown1 q (.int .u64 1)
        rw [← List.map_set, HY2.out] at S
        generalize (mt q)[q]'(by rw [HLEN.out]; omega) = old at *
        have ea : (⟨w.heap.size, 0, none⟩ : Addr).add q = ⟨w.heap.size, q, none⟩ := by unfold Addr.add; split <;> simp_all
        go_wp2_with fail
        exact ⟨⟨q + 1, by omega, by go_num, S.1, kept_grown hkA hown1 hbz.out S.2⟩, by simp [intOf]; omega⟩
    · obtain rfl : q = n := by omega
      rw [HALL.out] at hown
      clear M HYES HNO
      go_wp2_with fail
      go_ret
      exact ⟨_, rfl, by unfold Own; rw [show mv.length = q by rw [← HALL.out, HLEN.out]]; exact hown, hk⟩
set_option maxRecDepth 100000 in
theorem plc_c (A : Option Addr) (cap n : Nat) (xs : List Int) (K : Int) (x : Cl) (hl : xs.length = 4 * n) (hn : n ≤ 1000000) (w : World) (hr : Rd .u64 w A xs) : Calls Tryz.prog 151 #[leafV A n cap K, x.v] w fun e w' => ∃ v, e = .returned v ∧ (Own .u64 108 w.heap.size w' v (plcv xs n x) ∧ Kept w w') := by
  have ka := kept_alloc (kept_alloc (kept_refl w) (.cells #[.slice A n cap, .int .i64 K] 61)) x.cells
  have hc := blk_new1 w (.cells #[.slice A n cap, .int .i64 K] 61) x.cells
  have ht := blk_alloc (blk_new w (.cells #[.slice A n cap, .int .i64 K] 61)) x.cells
  have R := plcrow_c A cap n xs K x w.heap.size (w.heap.size + 1) hl hn _ (hr.kept ka) ht hc
  generalize plcv xs n x = mv at *
  obtain ⟨x0, x1, x2, x3⟩ := x
  dsimp only [Cl.v, Cl.cells] at *
  have c0 := blk_cell ht 0
  go_enter Tryz.func151, Tryz.ntmps151
  go_wp2_with fail
  refine R.mono ?_
  rintro e w1 ⟨v1, rfl, own1, hk1⟩
  have o1 := own1.less ka.size
  clear R hc ht own1 c0
  go_wp2_with fail
  go_ret
  exact ⟨_, rfl, o1, kept_trans ka hk1⟩
def symE (xs : List Int) (n : Nat) (K : Int) (N : Nat) (size : Int) : Int := if rightv xs n K = true then (if n ≤ N ∧ szb n size = false then 50 else 0) else 170
set_option maxRecDepth 100000 in
set_option maxHeartbeats 4000000 in
theorem symcheck_c (A : Option Addr) (cap n : Nat) (xs : List Int) (K : Int) (s : ByteArray) (size : Int) (hl : xs.length = 4 * n) (hn : n ≤ 1000000) (hs : s.size ≤ 9223372036854775807) (w : World) (hr : Rd .u64 w A xs) : Calls Tryz.prog 145 #[leafV A n cap K, .string s, .int .i64 size] w (Ret (.int .i64 (symE xs n K s.size size)) w) := by
  have ka := kept_alloc (kept_refl w) (.cells #[.slice A n cap, .int .i64 K] 61)
  have hb := blk_new w (.cells #[.slice A n cap, .int .i64 K] 61)
  have G := fun w1 => log_c size w1
  have R := fun w1 h => right_c A cap n xs K hl w1 h
  unfold Ltuple at G
  have hE : symE xs n K s.size size = if rightv xs n K = true then (if decide (n ≤ s.size) = true ∧ (hasLog size && decide ((n : Int) ≤ size)) = false then 50 else 0) else 170 := by unfold symE szb; simp only [decide_eq_true_eq]
  have HE := Lib.hid hE
  clear hE
  generalize symE xs n K s.size size = er at *
  generalize rightv xs n K = rv at *
  generalize hasLog size = h1 at *
  obtain ⟨d0, hd0⟩ : ∃ d0, decide (n ≤ s.size) = d0 := ⟨_, rfl⟩
  obtain ⟨d1, hd1⟩ : ∃ d1, decide (size < (n : Int)) = d1 := ⟨_, rfl⟩
  have hd2 : decide ((n : Int) ≤ size) = !d1 := by rw [← hd1, Bool.eq_iff_iff]; simp
  rw [hd0, hd2] at HE
  clear hd2
  go_enter Tryz.func145, Tryz.ntmps145
  go_wp2_with fail
  refine (G _).mono ?_
  rintro e w1 ⟨rfl, hk1⟩
  replace hb := blk_kept hk1 hb
  replace ka := kept_trans ka hk1
  have c0 : w1.cell? ⟨w.heap.size, 0, none⟩ = some (.slice A n cap) := blk_cell hb 0
  have c1 : w1.cell? ⟨w.heap.size, 1, none⟩ = some (.int .i64 K) := blk_cell hb 1
  clear G hk1
  go_wp2_with fail
  refine (R _ (hr.kept ka)).mono ?_
  rintro e w2 ⟨rfl, hk2⟩
  replace hb := blk_kept hk2 hb
  replace ka := kept_trans ka hk2
  replace c0 : w2.cell? ⟨w.heap.size, 0, none⟩ = some (.slice A n cap) := blk_cell hb 0
  clear R hk2 c1
  cases rv
  · go_wp2_with fail
    go_ret
    exact ⟨by rw [HE.out]; rfl, ka⟩
  · cases d0 <;> cases h1 <;> cases d1 <;> (go_wp2_with fail; go_ret; exact ⟨by rw [HE.out]; rfl, ka⟩)
end Go.Proofs.YtdejablhpljdfaaGreat
namespace Go.Proofs.YtdejablhpljdfaaGreat
open Go.RowKit BG
set_option linter.unusedVariables false
theorem kindsC_mem {xs : List Int} {x : Cl} : ∀ {n : Nat}, x ∈ kindsC xs n ↔ x ≠ fullv ∧ ∃ j, j < n ∧ cls xs j = x
  | 0 => by simp [kindsC]
  | n + 1 => by
    have ih := kindsC_mem (xs := xs) (x := x) (n := n)
    have key : (∃ j, j < n + 1 ∧ cls xs j = x) ↔ (∃ j, j < n ∧ cls xs j = x) ∨ cls xs n = x := by
      constructor
      · rintro ⟨j, hj, e⟩
        rcases Nat.lt_or_ge j n with h | h
        · exact .inl ⟨j, h, e⟩
        · exact .inr (by rw [show n = j by omega]; exact e)
      · rintro (⟨j, hj, e⟩ | e)
        · exact ⟨j, by omega, e⟩
        · exact ⟨n, by omega, e⟩
    rw [key]
    show x ∈ (if cls xs n = fullv then kindsC xs n else if cls xs n ∈ kindsC xs n then kindsC xs n else kindsC xs n ++ [cls xs n]) ↔ _
    by_cases h1 : cls xs n = fullv
    · rw [if_pos h1, ih]
      constructor
      · rintro ⟨a, b⟩; exact ⟨a, .inl b⟩
      · rintro ⟨a, b | b⟩
        · exact ⟨a, b⟩
        · exact absurd (b.symm.trans h1) a
    · rw [if_neg h1]
      by_cases h2 : cls xs n ∈ kindsC xs n
      · rw [if_pos h2, ih]
        constructor
        · rintro ⟨a, b⟩; exact ⟨a, .inl b⟩
        · rintro ⟨a, b | b⟩
          · exact ⟨a, b⟩
          · rw [b] at h2; exact ih.1 h2
      · rw [if_neg h2, List.mem_append, ih, List.mem_singleton]
        constructor
        · rintro (⟨a, b⟩ | b)
          · exact ⟨a, .inl b⟩
          · exact ⟨by rw [b]; exact h1, .inr b.symm⟩
        · rintro ⟨a, b | b⟩
          · exact .inl ⟨a, b⟩
          · exact .inr b.symm
theorem kindsC_nodup (xs : List Int) : ∀ n, (kindsC xs n).Nodup
  | 0 => by simp [kindsC]
  | n + 1 => by
    have ih := kindsC_nodup xs n
    show (if cls xs n = fullv then kindsC xs n else if cls xs n ∈ kindsC xs n then kindsC xs n else kindsC xs n ++ [cls xs n]).Nodup
    split
    · exact ih
    · split
      · exact ih
      · rename_i h
        rw [List.nodup_append]
        exact ⟨ih, by simp, fun a ha b hb => by rw [List.mem_singleton.1 hb]; exact fun e => h (e ▸ ha)⟩
def hitN (xs : List Int) (n : Nat) (s : ByteArray) (x : Cl) (i : Nat) : Nat := cntH xs 1 1 s x i n
def gotL (l : List Cl) (xs : List Int) (n : Nat) (s : ByteArray) (i : Nat) : Nat := (List.range n).countP fun j => decide (cls xs j ∈ l) && hasv (cls xs j) (byteAt s (i + j))
theorem hitN_eq (xs : List Int) (n : Nat) (s : ByteArray) (x : Cl) (i : Nat) : hitN xs n s x i = (List.range n).countP fun j => decide (cls xs j = x) && hasv (cls xs j) (byteAt s (i + j)) := by
  unfold hitN cntH
  refine List.countP_congr fun k _ => ?_
  rw [posk_one]
  by_cases h : cls xs k = x
  · rw [h]
  · simp [h]
theorem hitN_le (xs : List Int) (n : Nat) (s : ByteArray) (x : Cl) (i : Nat) : hitN xs n s x i ≤ n := by
  unfold hitN cntH; exact Nat.le_trans List.countP_le_length (by simp)
theorem gotL_le (l : List Cl) (xs : List Int) (n : Nat) (s : ByteArray) (i : Nat) : gotL l xs n s i ≤ n := by
  unfold gotL; exact Nat.le_trans List.countP_le_length (by simp)
theorem countP_cons_disj {α β : Type} [DecidableEq β] (f : α → β) (p : α → Bool) (x : β) (l : List β) (hx : x ∉ l) (r : List α) :
    (r.countP fun j => decide (f j ∈ x :: l) && p j) = (r.countP fun j => decide (f j = x) && p j) + r.countP fun j => decide (f j ∈ l) && p j := by
  induction r with
  | nil => rfl
  | cons a r ih =>
    simp only [List.countP_cons, ih]
    by_cases h1 : f a = x
    · have h2 : f a ∉ l := fun h => hx (h1 ▸ h)
      have h3 : f a ∈ x :: l := by rw [h1]; exact List.mem_cons_self
      cases p a <;> simp [h1] <;> (try simp [hx]) <;> omega
    · by_cases h2 : f a ∈ l
      · have h3 : f a ∈ x :: l := List.mem_cons_of_mem _ h2
        cases p a <;> simp [h1, h2, h3] <;> omega
      · have h3 : f a ∉ x :: l := fun h => (List.mem_cons.1 h).elim h1 h2
        cases p a <;> simp [h1, h2, h3]
theorem sum_hits {xs : List Int} {n : Nat} {s : ByteArray} {i : Nat} : ∀ {l : List Cl}, l.Nodup → (l.map fun x => hitN xs n s x i).sum = gotL l xs n s i
  | [], _ => by simp [gotL]
  | x :: l, h => by
    rw [List.nodup_cons] at h
    rw [List.map_cons, List.sum_cons, sum_hits h.2, hitN_eq]
    exact (countP_cons_disj (fun j => cls xs j) (fun j => hasv (cls xs j) (byteAt s (i + j))) x l h.1 (List.range n)).symm
theorem got_miss (xs : List Int) (n : Nat) (s : ByteArray) (i : Nat) : gotL (kindsC xs n) xs n s i + missv xs n s i + (whereN xs n fullv).length = n := by
  have hw : (whereN xs n fullv).length = (List.range n).countP fun j => decide (cls xs j = fullv) := by
    unfold whereN whereT
    rw [List.length_map, List.countP_eq_length_filter]
  rw [hw]
  unfold gotL missv
  have h : ∀ m, m ≤ n → ((List.range m).countP fun j => decide (cls xs j ∈ kindsC xs n) && hasv (cls xs j) (byteAt s (i + j))) + (List.range m).countP (misses xs s i) + ((List.range m).countP fun j => decide (cls xs j = fullv)) = m := by
    intro m
    induction m with
    | zero => intro _; rfl
    | succ m ih =>
      intro hm
      have ih := ih (by omega)
      rw [count_succ, count_succ, count_succ]
      have hx : cls xs m ∈ kindsC xs n ↔ cls xs m ≠ fullv := by
        rw [kindsC_mem]
        exact ⟨fun h => h.1, fun h => ⟨h, m, by omega, rfl⟩⟩
      have h1 : ((if (decide (cls xs m ∈ kindsC xs n) && hasv (cls xs m) (byteAt s (i + m))) = true then 1 else 0) + (if misses xs s i m = true then 1 else 0) + (if decide (cls xs m = fullv) = true then 1 else 0)) = 1 := by
        unfold misses
        by_cases hf : cls xs m = fullv
        · have hn : ¬ cls xs m ∈ kindsC xs n := fun h => (hx.1 h) hf
          rw [decide_eq_false hn, decide_eq_true hf, hf, has_full]
          rfl
        · rw [decide_eq_true (hx.2 hf), decide_eq_false hf]
          cases hasv (cls xs m) (byteAt s (i + m)) <;> rfl
      omega
  exact h n (Nat.le_refl n)
theorem bound_got (xs : List Int) (n : Nat) (s : ByteArray) (i : Nat) : boundv xs n - ((gotL (kindsC xs n) xs n s i : Nat) : Int) = missF xs n s i := by
  have := got_miss xs n s i
  unfold boundv missF
  omega
def cntC (n N : Nat) (size : Int) : Int := if n ≤ N then countv n N size else 0
theorem bval_hits {xs : List Int} {n : Nat} {s : ByteArray} {x : Cl} {size : Int} (hn1 : 1 ≤ n) (hn : n ≤ 64) (hs : s.size ≤ 1000000) (hz : n ≤ s.size → szb n size = true) :
    bval (plcv xs n x) (marksv s x) size = mk (s.size + 1 - n) (fun i => ((hitN xs n s x i : Nat) : Int)) ∧ bcnt (plcv xs n x) (marksv s x) size = cntC n s.size size := by
  have hp : ∀ k, k < n → posk 1 1 k < n := fun k h => by rw [posk_one]; exact h
  by_cases h : n ≤ s.size
  · have hg : bgood (plcv xs n x) (marksv s x) size := row_good hn1 h hs (hz h)
    obtain ⟨e1, e2⟩ := bval_good hg
    rw [plcv_len, marksv_len] at e1 e2
    refine ⟨e1.trans ?_, e2.trans (by unfold cntC; rw [if_pos h])⟩
    unfold slidev
    rw [show s.size - n + 1 = s.size + 1 - n by omega]
    refine mk_congr fun i hi => ?_
    unfold sl plcv
    rw [sl_cnt (by decide) (by decide) (by omega) n hp]
    have := hitN_le xs n s x i
    unfold hitN at this ⊢
    omega
  · have hb : ¬ bgood (plcv xs n x) (marksv s x) size := fun hg => by
      have h2 : 1 ≤ ((plcv xs n x).length : Int) ∧ ((plcv xs n x).length : Int) ≤ ((marksv s x).length : Int) := of_decide_eq_true hg.2
      rw [plcv_len, marksv_len] at h2
      omega
    obtain ⟨e1, e2⟩ := bval_bad hb
    exact ⟨by rw [e1, show s.size + 1 - n = 0 by omega]; rfl, by rw [e2]; unfold cntC; rw [if_neg h]⟩
end Go.Proofs.YtdejablhpljdfaaGreat
set_option linter.unusedVariables false
namespace Go.Proofs.YtdejablhpljdfaaGreat
open Go.RowKit
variable {F : Fence} {n : Nat} {P : Program}
def SeqR {α : Type} (F : Fence) (n : Nat) (P : Program) (g : Nat) (lb : Array Value) (encs : α → Array Value) (R : α → World → Prop) (Kp : World → World → Prop) (S : List α → Prop) (N : Nat) (w : World) : Prop :=
  ∀ (l : Nat) (J : List α → World → Prop) (W : World), Below w.heap.size w W → AbidesFrom W.heap.size J →
    (∀ pre x W1, J pre W1 → R x W1 → pre.length < N → YieldAt F (n - 1) P l (encs x) W1 fun e W' => e = .returned (.bool true) ∧ J (pre ++ [x]) W' ∧ Kp W1 W') → J [] W →
    CallsIn F n P g (#[.func (.yield l) #[] #[]] ++ lb) W fun e W' => (∃ v, e = .returned v) ∧ ∃ xs, S xs ∧ J xs W'
theorem rd_own {k : IntKind} {B : Nat} {A : Option Addr} {xs : List Int} {W W' : World} {row : Option Nat} (h : Rd k W A xs) (hg : W.grownBy W' row) (hr : ∀ r, row = some r → B ≤ r ∧ ∃ o : Obj, W.heap[r]? = some o ∧ o.isCells = false) : Rd k W' A xs :=
  ⟨h.1, fun h0 => by
    obtain ⟨ad, e, hc⟩ := h.2 h0
    refine ⟨ad, e, fun j hj => ?_⟩
    have c := hc j hj
    refine (World.cell?_of_block (hg.block _ (World.block_lt_of_cell? W _ c) fun e' => ?_)).trans c
    obtain ⟨_, o, ho, hcl⟩ := hr _ e'.symm
    unfold World.cell? at c
    rw [ho] at c
    cases o <;> first | (simp [Obj.isCells] at hcl; done) | (simp at c; done)⟩
theorem wpIn_rangeFunc_ownR {α : Type} {g : Operand} {ps : Array Tmp} {assign body : Code} {Q : Exit → Act → World → Prop} {a : Act} {w : World}
    (hro : F.round = none) (h1 : 1 ≤ n) {gf : Nat} {lb : Array Value} (hg : a.eval g = .func (.func gf) #[] lb) (hFg : F.fn gf) (eg : ∀ args w, (callFunc gf args).run P w = .ok (.enter gf args) w)
    {encs : α → Array Value} {R : α → World → Prop} {Kp : World → World → Prop} {S : List α → Prop} {N : Nat} {w0 : World} (hseq : SeqR F (n - 1) P gf lb encs R Kp S N w0)
    (hKt : ∀ {A B C : World}, Kp A B → Kp B C → Kp A C) (hKb : ∀ (W : World) (l : Nat) (o o' : Obj), w.heap.size ≤ l → W.heap[l]? = some o → o.isCells = false → o.isWalk = false → Kp W (W.putObj l o')) (hb0 : Below w0.heap.size w0 w) (hps : ∀ x, (encs x).size = ps.size)
    (I : List α → World → Prop) (hI : OwnFrom w.heap.size I) (hR : OwnFrom w.heap.size R) (h0 : I [] w) (a₁ : α → Act)
    (hassign : ∀ (l : Nat) (x : α) (W : World) (K : Act → World → Prop), K (a₁ x) W →
      assign.wpIn (F.inRound l) (n - 1 - 1) P (Exit.then K (fun _ _ _ => False)) { tmps := (ps.zip (encs x)).foldl (fun t (p, v) => t.setIfInBounds p v) a.tmps, defers := [] } W)
    (hbody : ∀ (l : Nat) (pre : List α) (x : α) (W : World), I pre W → R x W → pre.length < N → body.wpIn (F.inRound l) (n - 1 - 1) P (ownPostK Kp I (fun _ _ _ => False) (pre ++ [x]) W) (a₁ x) W)
    (hdone : ∀ (D : Nat) (xs : List α) (W : World), w.heap.size ≤ D → S xs → I xs W → W.heap[D]? = some (.deferred (some [])) → Q .normal { a with defers := { target := .collected D, args := #[] } :: a.defers } W) :
    (Code.rangeFunc g ps assign body).wpIn F n P Q a w := by
  refine wpIn_rangeFunc fun fn hfn => ?_
  rw [hro]
  obtain ⟨rec, hrec⟩ : ∃ rec : LoopState → Option Code → Loop, rec = fun st pe => { state := st, pending := pe, fn, tmps := a.tmps, params := ps, assign, body, defers := w.heap.size } := ⟨_, rfl⟩
  obtain ⟨W1, hW1⟩ : ∃ W1, (w.alloc (.deferred (some []))).alloc (.loop (rec .ready none)) = W1 := ⟨_, rfl⟩
  have hsz1 : W1.heap.size = w.heap.size + 2 := by rw [← hW1]; simp
  have hL1 : W1.heap[w.heap.size + 1]? = some (.loop (rec .ready none)) := by rw [← hW1]; exact blk_new1 _ _ _
  have hK1 : W1.heap[w.heap.size]? = some (.deferred (some [])) := by rw [← hW1]; exact blk_alloc (blk_new _ _) _
  have hI1 : I [] W1 := by rw [← hW1]; exact hI.alloc _ (hI.alloc _ h0)
  have hb1 : Below w0.heap.size w0 W1 := by rw [← hW1]; exact kept_alloc (kept_alloc hb0 _) _
  refine ⟨w.heap.size + 1, [{ target := .collected w.heap.size, args := #[] }], W1, { target := .fn (.func gf) lb, args := #[.func (.yield (w.heap.size + 1)) #[] #[]] }, W1, gf,
    #[.func (.yield (w.heap.size + 1)) #[] #[]] ++ lb, W1, ?_, ?_, ?_, ?_, fun _ => h1, ?_⟩
  · rw [← hW1, hrec]; exact run_enterLoop_outer _ _ _ _ _
  · simp only [resolve, hg]; simp [go_sem]
  · intro f' hf'; simp [Target.leads] at hf'; subst hf'; exact hFg
  · simp [invoke, go_sem, eg]
  · have hnw : ∀ {A : World} {row : Option Nat}, (∀ r, row = some r → W1.heap.size ≤ r ∧ ∃ o : Obj, A.heap[r]? = some o ∧ o.isWalk = true) → (∀ r, row = some r → w.heap.size ≤ r ∧ ∃ o : Obj, A.heap[r]? = some o ∧ o.isCells = false) :=
      fun hr r e => by obtain ⟨hB, o, ho, hw⟩ := hr r e; exact ⟨by omega, o, ho, Obj.not_cells_of_walk hw⟩
    refine (hseq (w.heap.size + 1) (fun pre W => I pre W ∧ W.heap[w.heap.size + 1]? = some (.loop (rec .ready none)) ∧ W.heap[w.heap.size]? = some (.deferred (some []))) W1 hb1
      (fun s A B row hs hg' hr => ⟨hI s A B row hs.1 hg' (hnw hr), (grownBy_keeps hg' (fun r e => (hr r e).2) hs.2.1 rfl).trans hs.2.1, (grownBy_keeps hg' (fun r e => (hr r e).2) hs.2.2 rfl).trans hs.2.2⟩)
      ?_ ⟨hI1, hL1, hK1⟩).mono ?_
    · rintro pre x W ⟨hi, hl, hk⟩ hRx hlen
      have hlt : w.heap.size + 1 < W.heap.size := blk_lt hl
      have hy := run_yield (P := P) (args := encs x) hl (by rw [hrec]; exact hps x)
      rw [hrec] at hy
      refine ⟨fn, _, assign, body, hy, roundIn_of_wpIn hfn (hassign _ x W _ ⟨_, run_beginRound hl (by rw [hrec]), ?_⟩)⟩
      have hl2 : (W.putObj (w.heap.size + 1) (.loop { rec .ready none with state := .busy })).heap[w.heap.size + 1]? = some (.loop { rec .ready none with state := .busy }) := World.putObj_heap_same hlt
      have hk2 : (W.putObj (w.heap.size + 1) (.loop { rec .ready none with state := .busy })).heap[w.heap.size]? = some (.deferred (some [])) := (World.putObj_heap_other (by omega)).trans hk
      have hw2 : Kp W (W.putObj (w.heap.size + 1) (.loop { rec .ready none with state := .busy })) := hKb _ _ _ _ (by omega) hl rfl rfl
      refine wpIn_mono (hbody _ pre x _ (hI.putObj _ hi (by omega) hl rfl) (hR.putObj _ hRx (by omega) hl rfl) hlen) ?_
      rintro e a3 W3 hp
      cases e with
      | normal =>
        obtain ⟨hk3, hkp3, hi3⟩ := hp
        have hl3 := hk3.same _ _ hl2 rfl
        have hr := run_endRound (P := P) none hl3
        refine ⟨_, _, hr, rfl, ⟨hI.putObj _ hi3 (by omega) hl3 rfl, ?_, (World.putObj_heap_other (by omega)).trans (hk3.same _ _ hk2 rfl)⟩, hKt (hKt hw2 hkp3) (hKb _ _ _ _ (by omega) hl3 rfl rfl)⟩
        rw [hrec]
        exact World.putObj_heap_same (blk_lt hl3)
      | ret => exact hp.2.elim
      | exit id => exact hp.2.elim
      | goto t => exact hp.2.elim
      | panic ch => exact hp.elim
      | outgrown => exact hp.elim
    · rintro e W2 ⟨⟨v, rfl⟩, xs, hS, hi, hl, hk⟩
      exact ⟨none, _, by have := run_endLoop (P := P) hl (by rw [hrec]; simp); rw [hrec] at this; exact this, hdone _ xs _ (Nat.le_refl _) hS (hI.putObj _ hi (by omega) hl rfl) ((World.putObj_heap_other (by omega)).trans hk)⟩
end Go.Proofs.YtdejablhpljdfaaGreat
