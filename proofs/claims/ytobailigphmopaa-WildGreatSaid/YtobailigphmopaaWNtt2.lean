/-
  Layer 2 (ntt): the document's sums, and the bits the other way round.
-/
import Derived.Test.YtobailigphmopaaWNtt1
import Derived.Laws.BitsLemmas
namespace Go.Proofs.Ytobailigphmopaa
open Go.RowKit BG
attribute [local go_sem ↓] Go.wp_at_zero Go.wp_at_succ
set_option linter.unusedVariables false

def NN (xs : List Int) : Prop := ∀ j, 0 ≤ nth xs j
theorem nn_mk {n : Nat} {f : Nat → Int} (h : ∀ j, j < n → 0 ≤ f j) : NN (mk n f) := by
  intro j
  by_cases hj : j < n
  · rw [nth_mk hj]; exact h j hj
  · unfold nth; rw [List.getD_eq_getElem?_getD, List.getElem?_eq_none (by rw [mk_length]; omega)]; exact Int.le_refl 0
theorem info_u64n : (Try.prog.info? 22).map (fun i => (i.zero, i.size, i.bytes)) = some (some (.int .u64 0), 1, 8) := by kernel_rfl
theorem step_x (k S a p : Int) : addm k (of k S) (mulm k a (of k p)) = of k (S + a * p) := by
  unfold addm mulm
  rw [of_mul_r, of_add_l, of_add_r]
theorem step_f (k w : Int) (t j : Nat) : mulm k (of k (w ^ (t * j))) (of k (w ^ j)) = of k (w ^ ((t + 1) * j)) := by
  unfold mulm
  rw [of_mul_l, of_mul_r, ← Int.pow_add, Nat.add_mul, Nat.one_mul]
theorem step_s (k w : Int) (j : Nat) : mulm k (of k (w ^ j)) w = of k (w ^ (j + 1)) := by
  unfold mulm
  rw [of_mul_l, Int.pow_succ]
theorem and_one (a : Int) (h0 : 0 ≤ a) (h1 : a < 8192) : bits .and .i64 a 1 = a % 2 := by
  have := bits_mask .i64 62 (by decide) (fun n h0 h1 => by rw [IntKind.wrap_i64]; omega) 1 (by decide) a h0 (by omega)
  simpa using this
theorem or_bit (x y : Int) (h0 : 0 ≤ x) (h1 : x < 8192) (h2 : 0 ≤ y) (h3 : y < 2) : bits .or .i64 (x * 2) y = x * 2 + y := 
  bits_join .i64 62 (by decide) (fun n h0 h1 => by rw [IntKind.wrap_i64]; omega) 1 (x * 2) y (by omega) (by omega) (by omega) h2 (by omega) (by omega)
theorem order_c (i L : Nat) (hL : L ≤ 12) (hi : i < 2 ^ L) (w : World) : Calls Try.prog 78 #[.int .i64 i, .int .i64 L] w (Ret (.int .i64 ((rev L i : Nat) : Int)) w) := by
  have hpL : 2 ^ L ≤ 2 ^ 12 := Nat.pow_le_pow_right (by decide) hL
  have HI := Lib.hid hi
  clear hi
  go_enter Try.func78, Try.ntmps78
  go_wp2_with fail
  go_loopw [0, 5, 7] (fun a o c wr => ∃ t : Nat, t ≤ L ∧ c = .int .i64 t ∧ a = .int .i64 ((i / 2 ^ t : Nat) : Int) ∧ o = .int .i64 ((rev t (i % 2 ^ t) : Nat) : Int) ∧ Kept w wr) (fun _ _ c _ => L - (intOf c).toNat)
  case atStart => exact ⟨0, Nat.zero_le _, rfl, by simp, by simp [rev], kept_refl _⟩
  case round =>
    obtain ⟨t, ht, rfl, rfl, rfl, hk⟩ := hrel
    by_cases hlt : t < L
    · have h1 := rev_lt t (i % 2 ^ t)
      have h2 : 2 ^ t ≤ 2 ^ 12 := Nat.pow_le_pow_right (by decide) (by omega)
      have h3 : i / 2 ^ t ≤ i := Nat.div_le_self _ _
      have h4 : rev (t + 1) (i % 2 ^ (t + 1)) = 2 * rev t (i % 2 ^ t) + i / 2 ^ t % 2 := by
        rw [rev_top t _ (Nat.mod_lt _ (Nat.two_pow_pos _)), Nat.mod_mod_of_dvd _ ⟨2, Nat.pow_succ _ _⟩, Nat.pow_succ, Nat.mod_mul_right_div_self]
      have h5 : i / 2 ^ (t + 1) = i / 2 ^ t / 2 := by rw [Nat.pow_succ, Nat.div_div_eq_div_mul]
      have hia := HI.out
      generalize i / 2 ^ t = a at *
      generalize rev t (i % 2 ^ t) = o at *
      have ho : o < 4096 := by omega
      have haa : a < 4096 := by omega
      clear h1 h2 h3 hia hpL
      have H4 := Lib.hid h4
      have H5 := Lib.hid h5
      clear h4 h5
      go_wp2_with fail
      exact ⟨⟨t + 1, by omega, by go_num, by rw [H5.out, Int.natCast_ediv]; rfl, by rw [and_one _ (by omega) (by omega), or_bit _ _ (by omega) (by omega) (by omega) (by omega), H4.out]; congr 1; omega, hk⟩, by simp [intOf]; omega⟩
    · obtain rfl : t = L := by omega
      have e : i % 2 ^ t = i := Nat.mod_eq_of_lt HI.out
      rw [e]
      go_wp2_with fail
      go_ret
      exact ⟨rfl, hk⟩
end Go.Proofs.Ytobailigphmopaa
