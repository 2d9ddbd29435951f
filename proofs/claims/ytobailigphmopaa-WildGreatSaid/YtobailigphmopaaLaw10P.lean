/-
  Layer 10's statements: a sum is 0 just where nothing is missed.
-/
import Derived.Test.YtobailigphmopaaWWildK
import Derived.Test.YtobailigphmopaaWNaiveJ
namespace Go.Proofs.Ytobailigphmopaa
open Go.RowKit BG
set_option linter.unusedVariables false

theorem sumTo_zero {f : Nat → Int} (h : ∀ j, 0 ≤ f j) : ∀ n, sumTo n f = 0 ↔ ∀ j, j < n → f j = 0 := by
  intro n
  have hp : ∀ m, 0 ≤ sumTo m f := by
    intro m
    induction m with
    | zero => exact Int.le_refl 0
    | succ m ih => have := h m; show 0 ≤ sumTo m f + f m; omega
  induction n with
  | zero => exact ⟨fun _ j hj => absurd hj (Nat.not_lt_zero j), fun _ => rfl⟩
  | succ n ih =>
    have h1 := hp n
    have h2 := h n
    constructor
    · intro e j hj
      have e2 : sumTo n f + f n = 0 := e
      rcases Nat.lt_or_ge j n with hl | hg
      · exact (ih.1 (by omega)) j hl
      · obtain rfl : j = n := by omega
        omega
    · intro e
      have e1 := ih.2 fun j hj => e j (by omega)
      have e2 := e n (by omega)
      show sumTo n f + f n = 0
      omega
theorem val_cases {x : Cl} (hx : x.ok) (ho : okel x = true) : (valv x = 0 ∧ x = fullv) ∨ ∃ b, b < 256 ∧ x = onlyv b ∧ valv x = b + 1 := by
  unfold okel at ho
  by_cases h : (sgl x).2 = true
  · right
    by_cases h1 : sizev x = 1
    · obtain ⟨b, hb, hp⟩ := size_some (x := x) (by omega)
      obtain ⟨e1, e2⟩ := sgl_good hx h1 hb hp
      exact ⟨b, hb, e2, by unfold valv; rw [e1]; rfl⟩
    · rw [sgl_bad hx h1] at h; cases h
  · left
    rw [Bool.eq_false_iff.2 h, Bool.false_or] at ho
    exact ⟨by unfold valv; rw [if_neg h], of_decide_eq_true ho⟩
theorem term_zero {x : Cl} (hx : x.ok) (ho : okel x = true) {b : Nat} (hb : b < 256) : (valv x : Int) * ((valv x : Int) - ((b : Int) + 1)) * ((valv x : Int) - ((b : Int) + 1)) = 0 ↔ hasv x b = true := by
  rcases val_cases hx ho with ⟨h0, rfl⟩ | ⟨b0, h0, rfl, hv⟩
  · rw [h0, has_full]
    simp
  · rw [hv, has_only h0 hb, decide_eq_true_eq]
    constructor
    · intro e
      rcases Int.mul_eq_zero.1 e with e | e
      · rcases Int.mul_eq_zero.1 e with e | e <;> omega
      · omega
    · rintro rfl
      rw [show ((b + 1 : Nat) : Int) - ((b : Int) + 1) = 0 by omega]
      simp
theorem plain_el {xs : List Int} {n j : Nat} (h : plainv xs n = true) (hj : j < n) : okel (cls xs j) = true := by
  unfold plainv at h
  exact List.all_eq_true.1 h j (List.mem_range.2 hj)
theorem zero_law {xs : List Int} {n : Nat} {s : ByteArray} {i : Nat} (hu : U64 xs) (hp : plainv xs n = true) : sumW xs n s i = 0 ↔ missv xs n s i = 0 := by
  unfold sumW missv
  rw [sumTo_zero (f := termW xs s i) (fun j => nn_sq _ _ (Int.natCast_nonneg _)), List.countP_eq_zero]
  constructor
  · intro h j hj
    have := (term_zero (cls_ok hu j) (plain_el hp (List.mem_range.1 hj)) (byteAt_lt s (i + j))).1 (h j (List.mem_range.1 hj))
    unfold misses
    rw [this]
    decide
  · intro h j hj
    have h1 := h j (List.mem_range.2 hj)
    unfold misses at h1
    exact (term_zero (cls_ok hu j) (plain_el hp hj) (byteAt_lt s (i + j))).2 (by simpa using h1)
theorem sums_ok {xs : List Int} {n : Nat} {K : Int} {s : ByteArray} {size : Int} (h : sumsE xs n K s.size size = 0) : rightv xs n K = true ∧ plainv xs n = true ∧ sumsL xs n K s size = mk (s.size + 1 - n) (sumW xs n s) := by
  have hL : sumsL xs n K s size = resL xs n s := by unfold sumsL; rw [h, if_pos rfl]
  unfold sumsE at h
  split at h
  · rename_i h1
    rw [Bool.and_eq_true] at h1
    exact ⟨h1.1, h1.2, by rw [hL, resL_eq (rightv_n h1.1).1]⟩
  · cases h
theorem counts_ok {xs : List Int} {n : Nat} {K : Int} {s : ByteArray} (h : rightv xs n K = true) : countsv xs n K s = mk (s.size + 1 - n) (missF xs n s) := by unfold countsv; rw [if_pos h]
theorem find_ok {xs : List Int} {n : Nat} {K : Int} {s : ByteArray} {size : Int} (hu : U64 xs) (h : findE xs n K s.size size = 0) : findL xs n K s size = hitsv (countsv xs n K s) K := by
  unfold findE at h
  split at h
  · rename_i hK
    subst hK
    obtain ⟨h1, h2, h3⟩ := sums_ok h
    unfold findL
    rw [if_pos rfl, h3, counts_ok h1]
    unfold zerT hitsv hitsT
    rw [mk_length, mk_length]
    congr 1
    refine List.filter_congr fun i hi => ?_
    have hi := List.mem_range.1 hi
    rw [nth_mk hi, nth_mk hi]
    unfold missF
    have := zero_law (s := s) (i := i) hu h2
    rw [decide_eq_decide, this]
    omega
  · cases h
end Go.Proofs.Ytobailigphmopaa
