/-
  Layer 2 (ntt): the document's sums, and the bits the other way round.
-/
import Derived.Test.YtkielaonclabbaaWNtt1
import Derived.Laws.BitsLemmas
namespace Go.Proofs.Ytkielaonclabbaa
open Go.RowKit BG
attribute [local go_sem ↓] Go.wp_at_zero Go.wp_at_succ
set_option linter.unusedVariables false

def U64 (xs : List Int) : Prop := ∀ j, 0 ≤ nth xs j
theorem u64_mk {n : Nat} {f : Nat → Int} (h : ∀ j, j < n → 0 ≤ f j) : U64 (mk n f) := by
  intro j
  by_cases hj : j < n
  · rw [nth_mk hj]; exact h j hj
  · unfold nth; rw [List.getD_eq_getElem?_getD, List.getElem?_eq_none (by rw [mk_length]; omega)]; exact Int.le_refl 0
theorem info_u64 : (Try.prog.info? 32).map (fun i => (i.zero, i.size, i.bytes)) = some (some (.int .u64 0), 1, 8) := by kernel_rfl
theorem step_x (k S a p : Int) : addm k (of k S) (mulm k a (of k p)) = of k (S + a * p) := by
  unfold addm mulm
  rw [of_mul_r, of_add_l, of_add_r]
theorem step_f (k w : Int) (t j : Nat) : mulm k (of k (w ^ (t * j))) (of k (w ^ j)) = of k (w ^ ((t + 1) * j)) := by
  unfold mulm
  rw [of_mul_l, of_mul_r, ← Int.pow_add, Nat.add_mul, Nat.one_mul]
theorem step_s (k w : Int) (j : Nat) : mulm k (of k (w ^ j)) w = of k (w ^ (j + 1)) := by
  unfold mulm
  rw [of_mul_l, Int.pow_succ]
theorem sums_c (k w0 : Int) (hk0 : pr k ≠ 0) (h0 : 0 ≤ w0) (A : Option Addr) (cap : Nat) (xs : List Int) (hu : U64 xs) (hl : xs.length ≤ 1000000000000) (w : World) (hr : Rd .u64 w A xs) :
    Calls Try.prog 29 #[.int .i64 k, .slice A xs.length cap, .int .u64 w0] w fun e w' => ∃ v, e = .returned v ∧ Own .u64 32 w.heap.size w' v (mk xs.length (dft k xs.length (nth xs) w0)) ∧ Kept w w' := by
  obtain ⟨i1, hif1, hy0, hy1, hy2⟩ := info_parts info_u64
  have h1 := Lib.hid (of_one hk0)
  have hz : of k 0 = 0 := of_small (Int.le_refl 0) (by have := pr_big hk0; omega)
  have HZ := Lib.hid hz
  clear hz hk0
  generalize hn : xs.length = n at *
  go_enter Try.func29, Try.ntmps29
  go_wp2_with fail
  go_loopw [7, 8, 9] (fun v s i wr => ∃ j : Nat, j ≤ n ∧ i = .int .i64 j ∧ s = .int .u64 (of k (w0 ^ j)) ∧ Own .u64 32 w.heap.size wr v (mk j (dft k n (nth xs) w0)) ∧ Kept w wr) (fun _ _ i _ => n - (intOf i).toNat)
  case atStart => exact ⟨0, Nat.zero_le _, rfl, by rw [Int.pow_zero, h1.out], Own.nil _ _ _ _, kept_refl _⟩
  case round =>
    obtain ⟨j, hj, rfl, rfl, hown, hk⟩ := hrel
    by_cases hlt : j < n
    · have hs0 := of_nonneg k (w0 ^ j)
      go_wp2_with fail
      go_loopw [10, 11, 12] (fun x f i wx => ∃ t : Nat, t ≤ n ∧ i = .int .i64 t ∧ x = .int .u64 (of k (sumTo t fun i => nth xs i * w0 ^ (i * j))) ∧ f = .int .u64 (of k (w0 ^ (t * j))) ∧ Kept wr wx) (fun _ _ i _ => n - (intOf i).toNat)
      case atStart => exact ⟨0, Nat.zero_le _, rfl, by rw [show sumTo 0 _ = 0 from rfl, HZ.out], by rw [Nat.zero_mul, Int.pow_zero, h1.out], kept_refl _⟩
      case round =>
        obtain ⟨t, ht, rfl, rfl, rfl, hkx⟩ := hrel
        by_cases hltt : t < n
        · obtain ⟨ad, rfl, c0⟩ := (hr.kept (kept_trans hk hkx)).at_ (j := t) (by omega)
          have hx0 := of_nonneg k (sumTo t fun i => nth xs i * w0 ^ (i * j))
          have hf0 := of_nonneg k (w0 ^ (t * j))
          have ha := hu t
          have e1 := step_x k (sumTo t fun i => nth xs i * w0 ^ (i * j)) (nth xs t) (w0 ^ (t * j))
          have e2 := step_f k w0 t j
          have hm0 := (mulm_bd k (nth xs t) (of k (w0 ^ (t * j)))).1
          have M1 := rmul_c k (nth xs t) (of k (w0 ^ (t * j))) ha hf0
          have M2 := radd_c k (of k (sumTo t fun i => nth xs i * w0 ^ (i * j))) _ hx0 hm0
          have M3 := rmul_c k (of k (w0 ^ (t * j))) (of k (w0 ^ j)) hf0 hs0
          rw [e1] at M2
          rw [e2] at M3
          have e3 : of k (sumTo t (fun i => nth xs i * w0 ^ (i * j)) + nth xs t * w0 ^ (t * j)) = of k (sumTo (t + 1) fun i => nth xs i * w0 ^ (i * j)) := rfl
          rw [e3] at M2
          generalize of k (sumTo t fun i => nth xs i * w0 ^ (i * j)) = x at *
          generalize hF : of k (w0 ^ (t * j)) = f at *
          generalize hS : of k (w0 ^ j) = s at *
          generalize hX' : of k (sumTo (t + 1) fun i => nth xs i * w0 ^ (i * j)) = x' at *
          generalize hF' : of k (w0 ^ ((t + 1) * j)) = f' at *
          have HX := Lib.hid hX'
          have HF := Lib.hid hF'
          clear e1 e2 e3 hF hS hX' hF'
          go_wp2_with fail
          refine (M1 _).mono ?_
          rintro e w3 ⟨rfl, hk3⟩
          go_wp2_with fail
          refine (M2 _).mono ?_
          rintro e w4 ⟨rfl, hk4⟩
          go_wp2_with fail
          refine (M3 _).mono ?_
          rintro e w5 ⟨rfl, hk5⟩
          go_wp2_with fail
          exact ⟨⟨t + 1, by omega, by go_num, by rw [HX.out], by rw [HF.out], kept_trans hkx (kept_trans hk3 (kept_trans hk4 hk5))⟩, by simp [intOf]; omega⟩
        · obtain rfl : t = n := by omega
          have e4 := step_s k w0 j
          have hown2 : World.ownsRow _ _ _ _ _ _ _ := hown.kept hkx
          rw [mk_length] at hown2
          have hkk := kept_trans hk hkx
          have hbase := hkk.size
          have M3 := rmul_c k (of k (w0 ^ j)) w0 hs0 h0
          rw [e4] at M3
          have hd : of k (sumTo t fun i => nth xs i * w0 ^ (i * j)) = dft k t (nth xs) w0 j := rfl
          generalize of k (sumTo t fun i => nth xs i * w0 ^ (i * j)) = x at *
          generalize of k (w0 ^ j) = s at *
          generalize hS' : of k (w0 ^ (j + 1)) = s' at *
          have HD := Lib.hid hd
          have HS := Lib.hid hS'
          clear hd hS' e4 hown hkx hk
          go_wp2_with (at_builtin; refine wpList_append_own _ rfl _ _ 26 rfl w.heap.size 32 i1 (.int .u64 0) 1 8 Try.underlying26 hif1 hy0 hy1 hy2 rfl (by decide) _ _ _ rfl (hown2.alloc _) ⟨wr.heap.size, 0, none⟩ 1 1 [.int .u64 x] rfl rfl ?c1 ?c2 ?c3 ?c4 ?c5 ?_)
          case c1 =>
            intro q u hq
            match q, hq with
            | 0, hq => simp at hq; subst hq; simp [Addr.add]
          case c2 => intro u hu; simp at hu; subst hu; rfl
          case c3 => unfold maxLen; omega
          case c4 => omega
          case c5 => simp; omega
          · intro v' w5 hown' hgrow _
            rw [HD.out] at hown'
            have R : Own .u64 32 w.heap.size w5 v' (mk (j + 1) (dft k t (nth xs) w0)) := Own.appended hown'
            have K := kept_grown (kept_alloc hkk _) (hown2.alloc _) (Nat.le_refl _) hgrow
            clear hown' hgrow hown2
            go_wp2_with fail
            refine (M3 _).mono ?_
            rintro e w6 ⟨rfl, hk6⟩
            go_wp2_with fail
            exact ⟨⟨j + 1, by omega, by go_num, by rw [HS.out], R.kept hk6, kept_trans K hk6⟩, by simp [intOf]; omega⟩
    · obtain rfl : j = n := by omega
      go_wp2_with fail
      exact bodyPost_ret (v := u7) (by simp [results, Try.results29, go_sem]) rfl ⟨_, rfl, hown, hk⟩
theorem and_one (a : Int) (h0 : 0 ≤ a) (h1 : a < 8192) : bits .and .i64 a 1 = a % 2 := by
  have := bits_mask .i64 62 (by decide) (fun n h0 h1 => by rw [IntKind.wrap_i64]; omega) 1 (by decide) a h0 (by omega)
  simpa using this
theorem or_bit (x y : Int) (h0 : 0 ≤ x) (h1 : x < 8192) (h2 : 0 ≤ y) (h3 : y < 2) : bits .or .i64 (x * 2) y = x * 2 + y := 
  bits_join .i64 62 (by decide) (fun n h0 h1 => by rw [IntKind.wrap_i64]; omega) 1 (x * 2) y (by omega) (by omega) (by omega) h2 (by omega) (by omega)
theorem order_c (i L : Nat) (hL : L ≤ 12) (hi : i < 2 ^ L) (w : World) : Calls Try.prog 38 #[.int .i64 i, .int .i64 L] w (Ret (.int .i64 ((rev L i : Nat) : Int)) w) := by
  have hpL : 2 ^ L ≤ 2 ^ 12 := Nat.pow_le_pow_right (by decide) hL
  have HI := Lib.hid hi
  clear hi
  go_enter Try.func38, Try.ntmps38
  go_wp2_with fail
  go_loopw [0, 5, 7] (fun a o c wr => ∃ t : Nat, t ≤ L ∧ c = .int .i64 t ∧ a = .int .i64 ((i / 2 ^ t : Nat) : Int) ∧ o = .int .i64 ((rev t (i % 2 ^ t) : Nat) : Int) ∧ Kept w wr) (fun _ _ c _ => L - (intOf c).toNat)
  case atStart => exact ⟨0, Nat.zero_le _, rfl, by simp, by simp [rev], kept_refl _⟩
  case round =>
    obtain ⟨t, ht, rfl, rfl, rfl, hk⟩ := hrel
    by_cases hlt : t < L
    · have h1 := rev_lt t (i % 2 ^ t)
      have h2 : 2 ^ t ≤ 2 ^ 12 := Nat.pow_le_pow_right (by decide) (by omega)
      have h3 : i / 2 ^ t ≤ i := Nat.div_le_self _ _
      have h4 : rev (t + 1) (i % 2 ^ (t + 1)) = 2 * rev t (i % 2 ^ t) + i / 2 ^ t % 2 := by
        rw [rev_top t _ (Nat.mod_lt _ (Nat.two_pow_pos _)), Nat.mod_mod_of_dvd _ ⟨2, Nat.pow_succ _ _⟩, Nat.pow_succ, Nat.mod_mul_right_div_self]
      have h5 : i / 2 ^ (t + 1) = i / 2 ^ t / 2 := by rw [Nat.pow_succ, Nat.div_div_eq_div_mul]
      have hia := HI.out
      generalize i / 2 ^ t = a at *
      generalize rev t (i % 2 ^ t) = o at *
      have ho : o < 4096 := by omega
      have haa : a < 4096 := by omega
      clear h1 h2 h3 hia hpL
      have H4 := Lib.hid h4
      have H5 := Lib.hid h5
      clear h4 h5
      go_wp2_with fail
      exact ⟨⟨t + 1, by omega, by go_num, by rw [H5.out, Int.natCast_ediv]; rfl, by rw [and_one _ (by omega) (by omega), or_bit _ _ (by omega) (by omega) (by omega) (by omega), H4.out]; congr 1; omega, hk⟩, by simp [intOf]; omega⟩
    · obtain rfl : t = L := by omega
      have e : i % 2 ^ t = i := Nat.mod_eq_of_lt HI.out
      rw [e]
      go_wp2_with fail
      go_ret
      exact ⟨rfl, hk⟩
end Go.Proofs.Ytkielaonclabbaa
