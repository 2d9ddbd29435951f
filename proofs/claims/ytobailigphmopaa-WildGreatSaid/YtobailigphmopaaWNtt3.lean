/-
  Layer 2 (ntt): one step over two halves.
-/
import Derived.Test.YtobailigphmopaaWNtt2
namespace Go.Proofs.Ytobailigphmopaa
open Go.RowKit BG
attribute [local go_sem ↓] Go.wp_at_zero Go.wp_at_succ
set_option linter.unusedVariables false

theorem mk_set {n : Nat} (f : Nat → Int) {j : Nat} (hj : j < n) (u : Int) : (mk n f).set j u = mk n fun p => if p = j then u else f p := by
  refine List.ext_getElem (by simp [mk]) fun i h1 h2 => ?_
  rw [List.getElem_set]
  simp only [mk, List.getElem_map, List.getElem_range]
  by_cases h : j = i
  · subst h; simp
  · rw [if_neg h, if_neg (fun e => h e.symm)]
theorem rowKept {base n size : Nat} {e : TypeId} {v : Value} {xs : List Value} {w w1 : World} (h : w.ownsRow base e size v n xs) (hk : Kept w w1) : w1.ownsRow base e size v n xs :=
  World.ownsRow.kept h (⟨hk.os, hk.tape, hk.output, hk.size, fun i hi _ => hk.block i hi⟩ : w.grownBy w1 none) (by cases v.ownBlock <;> simp)
/-- Two halves, the first t places done. -/
def flyTo (k w : Int) (lo hi : Nat) (F : Nat → Int) (t : Nat) (j : Nat) : Int :=
  if lo ≤ j ∧ j < lo + t then addm k (F j) (mulm k (F (j + (hi - lo))) (of k (w ^ (j - lo))))
  else if hi ≤ j ∧ j < hi + t then subm k (F (j - (hi - lo))) (mulm k (F j) (of k (w ^ (j - hi)))) else F j
theorem flyTo_zero (k w : Int) (lo hi : Nat) (F : Nat → Int) (j : Nat) : flyTo k w lo hi F 0 j = F j := by
  unfold flyTo; rw [if_neg (by omega), if_neg (by omega)]
theorem flyTo_at {k w : Int} {lo hi t : Nat} (F : Nat → Int) (ht : lo + t < hi) : flyTo k w lo hi F t (lo + t) = F (lo + t) ∧ flyTo k w lo hi F t (hi + t) = F (hi + t) := by
  unfold flyTo
  exact ⟨by rw [if_neg (by omega), if_neg (by omega)], by rw [if_neg (by omega), if_neg (by omega)]⟩
theorem flyTo_set {k w : Int} {lo hi n t : Nat} (F : Nat → Int) (ht : lo + t < hi) (hn : hi + t < n) :
    ((mk n (flyTo k w lo hi F t)).set (lo + t) (addm k (F (lo + t)) (mulm k (F (hi + t)) (of k (w ^ t))))).set (hi + t) (subm k (F (lo + t)) (mulm k (F (hi + t)) (of k (w ^ t)))) = mk n (flyTo k w lo hi F (t + 1)) := by
  rw [mk_set _ (by omega), mk_set _ hn]
  refine mk_congr fun j hj => ?_
  by_cases h1 : j = hi + t
  · rw [if_pos h1, h1]
    unfold flyTo
    rw [if_neg (by omega), if_pos (by omega), show hi + t - (hi - lo) = lo + t by omega, show hi + t - hi = t by omega]
  · rw [if_neg h1]
    by_cases h2 : j = lo + t
    · rw [if_pos h2, h2]
      unfold flyTo
      rw [if_pos (by omega), show lo + t + (hi - lo) = hi + t by omega, show lo + t - lo = t by omega]
    · rw [if_neg h2]
      unfold flyTo
      by_cases h3 : lo ≤ j ∧ j < lo + t
      · rw [if_pos h3, if_pos (by omega)]
      · rw [if_neg h3, if_neg (show ¬ (lo ≤ j ∧ j < lo + (t + 1)) by omega)]
        by_cases h4 : hi ≤ j ∧ j < hi + t
        · rw [if_pos h4, if_pos (by omega)]
        · rw [if_neg h4, if_neg (by omega)]
theorem fly_c (k w0 : Int) (h0 : 0 ≤ w0) (g n cap lo hi ca cb : Nat) (F : Nat → Int) (hF : ∀ j, 0 ≤ F j) (half : Nat) (HH : Hid (hi = lo + half)) (hn : hi + half ≤ n) (hmax : n ≤ 1000000000000) (base : Nat) (w : World) (hown : w.ownsRow base 22 1 (.slice (some ⟨g, 0, none⟩) n cap) n ((mk n F).map (Value.int .u64))) (hb : base ≤ w.heap.size) :
    Calls Try.prog 79 #[.int .i64 k, .slice (some ⟨g, lo, none⟩) half ca, .slice (some ⟨g, hi, none⟩) half cb, .int .u64 w0] w fun e w' => e = .returned (.tuple #[]) ∧ w'.ownsRow base 22 1 (.slice (some ⟨g, 0, none⟩) n cap) n ((mk n (flyTo k w0 lo hi F half)).map (Value.int .u64)) ∧ (∀ w1, Kept w1 w → w1.heap.size ≤ base → Kept w1 w') := by
  have O := of_c k 1 (by decide)
  have e0 : mk n F = mk n (flyTo k w0 lo hi F 0) := mk_congr fun j _ => (flyTo_zero _ _ _ _ _ _).symm
  rw [e0] at hown
  clear e0
  go_enter Try.func79, Try.ntmps79
  go_wp2_with fail
  refine (O _).mono ?_
  rintro e w1 ⟨rfl, hk1⟩
  have hown1 : w1.ownsRow base 22 1 (.slice (some ⟨g, 0, none⟩) n cap) n ((mk n (flyTo k w0 lo hi F 0)).map (Value.int .u64)) := rowKept hown hk1
  go_wp2_with fail
  go_loopw [8, 16] (fun f i wr => ∃ t : Nat, t ≤ half ∧ i = .int .i64 t ∧ f = .int .u64 (of k (w0 ^ t)) ∧ wr.ownsRow base 22 1 (.slice (some ⟨g, 0, none⟩) n cap) n ((mk n (flyTo k w0 lo hi F t)).map (Value.int .u64)) ∧ (∀ w2, Kept w2 w → w2.heap.size ≤ base → Kept w2 wr) ∧ base ≤ wr.heap.size) (fun _ i _ => half - (intOf i).toNat)
  case atStart => exact ⟨0, Nat.zero_le _, rfl, by rw [Int.pow_zero], hown1, fun w2 hk _ => kept_trans hk hk1, Nat.le_trans hb hk1.size⟩
  case round =>
    clear hown hown1 hk1 O
    obtain ⟨t, ht, rfl, rfl, hown, hk, hbw⟩ := hrel
    by_cases hlt : t < half
    · have c0 := World.ownsRow.cellAt hown (lo + t) (by have := HH.out; omega)
      have c1 := World.ownsRow.cellAt hown (hi + t) (by omega)
      have hlh : lo + t < hi := by have := HH.out; omega
      obtain ⟨f1, f2⟩ := flyTo_at (k := k) (w := w0) F hlh
      have ln : (mk n (flyTo k w0 lo hi F t)).length = n := mk_length _ _
      rw [List.getElem?_map, List.getElem?_eq_getElem (by have := HH.out; omega), Option.map_some, ← nth_lt (by have := HH.out; omega), nth_mk (by have := HH.out; omega), f1] at c0
      rw [List.getElem?_map, List.getElem?_eq_getElem (by omega), Option.map_some, ← nth_lt (by omega), nth_mk (by omega), f2] at c1
      have S := flyTo_set (k := k) (w := w0) (n := n) F hlh (by omega)
      have hf0 := of_nonneg k (w0 ^ t)
      have hx := hF (lo + t)
      have hy := hF (hi + t)
      have M1 := mul_c k (F (hi + t)) (of k (w0 ^ t)) hy hf0
      have hm0 := (mulm_bd k (F (hi + t)) (of k (w0 ^ t))).1
      have M2 := add_c k (F (lo + t)) (mulm k (F (hi + t)) (of k (w0 ^ t))) hx hm0
      have M3 := sub_c k (F (lo + t)) (mulm k (F (hi + t)) (of k (w0 ^ t))) hx hm0
      have e2 : mulm k (of k (w0 ^ t)) w0 = of k (w0 ^ (t + 1)) := by unfold mulm; rw [of_mul_l, Int.pow_succ]
      have M4 := mul_c k (of k (w0 ^ t)) w0 hf0 h0
      rw [e2] at M4
      have hPQ : lo + t ≠ hi + t := by have := HH.out; omega
      have hPn : lo + t < n := by have := HH.out; omega
      have hQn : hi + t < n := by omega
      generalize addm k (F (lo + t)) (mulm k (F (hi + t)) (of k (w0 ^ t))) = u at *
      generalize subm k (F (lo + t)) (mulm k (F (hi + t)) (of k (w0 ^ t))) = v at *
      generalize mulm k (F (hi + t)) (of k (w0 ^ t)) = y at *
      generalize F (lo + t) = x at *
      generalize F (hi + t) = z at *
      generalize of k (w0 ^ t) = f at *
      generalize hf' : of k (w0 ^ (t + 1)) = f' at *
      have HF := Lib.hid hf'
      have HS := Lib.hid S
      clear f1 f2 ln e2 hf' S
      go_wp2_with fail
      have ks_c0 := fun s => kw_cell s c0
      have ks_c1 := fun s => kw_cell s c1
      have M1' := M1
      refine wp_region_kept (by kernel_rfl) (by kernel_rfl) ?_
      repeat (first | go_big_quiet_skip | (go_big_quiet_want; go_big_quiet_op; first | go_big_quiet_on | (apply Exists.intro; refine ⟨fun s => ?_, ?_⟩; (first | (go_at_call 56; exact call_kept (M1 _))); go_big_quiet_on)))
      refine wpQuiet_nil ?_
      rintro w2 ⟨⟨_, hk2⟩, rfl⟩
      clear ks_c0 ks_c1 c0 c1
      go_wp2_with fail
      refine (M2 _).mono ?_
      rintro e w3 ⟨rfl, hk3⟩
      go_wp2_with fail
      refine (M3 _).mono ?_
      rintro e w4 ⟨rfl, hk4⟩
      have K := kept_trans hk2 (kept_trans hk3 hk4)
      have hownA : w4.ownsRow base 22 1 (.slice (some ⟨g, 0, none⟩) n cap) n ((mk n (flyTo k w0 lo hi F t)).map (Value.int .u64)) := rowKept hown K
      have hkA := fun w2 h2 h3 => kept_trans (hk w2 h2 h3) K
      have d0 := World.ownsRow.cellAt hownA (lo + t) (by omega)
      rw [List.getElem?_map, List.getElem?_eq_getElem (by rw [mk_length]; omega), Option.map_some] at d0
      have f0 := World.ownsRow.frozenAt hownA (lo + t)
      have S1 := World.ownsRow.stored hownA (lo + t) (.int .u64 u)
      have d1 := World.ownsRow.cellAt S1.1 (hi + t) (by omega)
      rw [List.getElem?_set_ne hPQ, List.getElem?_map, List.getElem?_eq_getElem (by rw [mk_length]; omega), Option.map_some] at d1
      have f1 := World.ownsRow.frozenAt S1.1 (hi + t)
      have S2 := World.ownsRow.stored S1.1 (hi + t) (.int .u64 v)
      rw [← List.map_set, ← List.map_set, HS.out] at S2
      generalize (mk n (flyTo k w0 lo hi F t))[lo + t]'(by rw [mk_length]; omega) = old at *
      generalize (mk n (flyTo k w0 lo hi F t))[hi + t]'(by rw [mk_length]; omega) = old2 at *
      have hkB := fun w2 h2 h3 => kept_grown (kept_grown (hkA w2 h2 h3) hownA h3 S1.2) S1.1 h3 S2.2
      clear hown hk hk2 hk3 hk4
      go_wp2_with fail
      refine (M4 _).mono ?_
      rintro e w5 ⟨rfl, hk5⟩
      go_wp2_with fail
      exact ⟨⟨t + 1, by omega, by go_num, by rw [HF.out], rowKept S2.1 hk5, fun w2 h2 h3 => kept_trans (hkB w2 h2 h3) hk5, Nat.le_trans (Nat.le_trans hbw K.size) (Nat.le_trans (by simp) hk5.size)⟩, by simp [intOf]; omega⟩
    · obtain rfl : t = half := by omega
      go_wp2_with fail
      exact bodyPost_end (v := .tuple #[]) (by simp [results, Try.results79, go_sem]) rfl ⟨rfl, hown, hk⟩
end Go.Proofs.Ytobailigphmopaa
