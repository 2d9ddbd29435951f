/-
  Layer 2 (ntt): products that go round.
-/
import Derived.Test.YthjedgniedpkfaaWNtt5
namespace Go.Proofs.Ythjedgniedpkfaa
open Go.RowKit BG
attribute [local go_sem ↓] Go.wp_at_zero Go.wp_at_succ
set_option linter.unusedVariables false

def cycErr (k : Int) (n m : Nat) : Int := if amiss k n = 0 then (if m = n then 0 else 21) else amiss k n
def cycv (k : Int) (xs ys : List Int) : List Int := if cycErr k xs.length ys.length = 0 then mk xs.length fun t => of k (cyc xs.length (nth xs) (nth ys) t) else []
theorem cycErr_zero {k : Int} {n m : Nat} (h : cycErr k n m = 0) : amiss k n = 0 ∧ m = n := by
  unfold cycErr at h
  split at h
  · rename_i h1
    refine ⟨h1, ?_⟩
    split at h
    · assumption
    · cases h
  · rename_i h1; exact absurd h h1
theorem invv_prod {k : Int} {xs ys : List Int} (hl : ys.length = xs.length) (h : amiss k xs.length = 0) : invv k (mk xs.length fun j => mulm k (dft k xs.length (nth xs) (rootm k (lgv xs.length)) j) (dft k xs.length (nth ys) (rootm k (lgv xs.length)) j)) = mk xs.length fun t => of k (cyc xs.length (nth xs) (nth ys) t) := by
  obtain ⟨hp, hlg⟩ := amiss_zero h
  obtain ⟨hL, hx⟩ := len_log h
  unfold invv
  rw [mk_length, if_pos h]
  refine mk_congr fun t ht => ?_
  have h1 := idft_mul (rootOf hp hL) (rootm_ne hp hL) (pow_ne hp hL) (nth xs) (nth ys) t (by rw [← hx]; exact ht)
  rw [← hx] at h1
  rw [← h1]
  unfold idft
  rw [dft_cong (y := fun j => mulm k (dft k xs.length (nth xs) (rootm k (lgv xs.length)) j) (dft k xs.length (nth ys) (rootm k (lgv xs.length)) j)) (fun j hj => by rw [nth_mk hj]; exact Cong.refl _ _) (Cong.refl _ _)]
theorem fwdv_eq {k : Int} {xs : List Int} (h : amiss k xs.length = 0) : fwdv k xs = mk xs.length (dft k xs.length (nth xs) (rootm k (lgv xs.length))) := by unfold fwdv; rw [if_pos h]
theorem amiss_pos {k : Int} {n : Nat} (h : amiss k n = 0) : 0 < n ∧ n ≤ 4096 := by
  obtain ⟨h1, h2⟩ := log_some (amiss_zero h).2
  have h3 := Nat.two_pow_pos (lgv n)
  have h4 : 2 ^ lgv n ≤ 2 ^ 12 := Nat.pow_le_pow_right (by decide) h1
  omega
/-- The products up to row i, column j, laid where they go. -/
def cycTo (k : Int) (n : Nat) (a b : Nat → Int) (i j t : Nat) : Int :=
  of k ((sumTo i fun i' => sumTo n fun j' => if (i' + j') % n = t then a i' * b j' else 0) + sumTo j fun j' => if (i + j') % n = t then a i * b j' else 0)
theorem cycTo_zero (k : Int) (n : Nat) (a b : Nat → Int) (hk : pr k ≠ 0) : mk n (cycTo k n a b 0 0) = mk n fun _ => 0 := mk_congr fun t _ => by
  unfold cycTo
  show of k (0 + 0) = 0
  exact of_small (by decide) (by have := pr_big hk; omega)
theorem cycTo_row (k : Int) (n : Nat) (a b : Nat → Int) (i : Nat) : mk n (cycTo k n a b i n) = mk n (cycTo k n a b (i + 1) 0) := mk_congr fun t _ => by
  unfold cycTo
  show _ = of k (sumTo i _ + _ + 0)
  rw [Int.add_zero]
theorem cycTo_all (k : Int) (n : Nat) (a b : Nat → Int) : mk n (cycTo k n a b n 0) = mk n fun t => of k (cyc n a b t) := mk_congr fun t _ => by
  unfold cycTo cyc
  show of k (_ + 0) = _
  rw [Int.add_zero]
theorem cycTo_set (k : Int) {n : Nat} (a b : Nat → Int) (i j : Nat) (hn : 0 < n) : (mk n (cycTo k n a b i j)).set ((i + j) % n) (addm k (cycTo k n a b i j ((i + j) % n)) (mulm k (a i) (b j))) = mk n (cycTo k n a b i (j + 1)) := by
  rw [mk_set _ (Nat.mod_lt _ hn)]
  refine mk_congr fun t _ => ?_
  by_cases h : t = (i + j) % n
  · rw [if_pos h, h]
    unfold cycTo addm mulm
    rw [of_add_l, of_add_r]
    have e : (sumTo (j + 1) fun j' => if (i + j') % n = (i + j) % n then a i * b j' else 0) = (sumTo j fun j' => if (i + j') % n = (i + j) % n then a i * b j' else 0) + a i * b j := by
      show _ + (if (i + j) % n = (i + j) % n then a i * b j else 0) = _
      rw [if_pos rfl]
    rw [e, Int.add_assoc]
  · rw [if_neg h]
    unfold cycTo
    have e : (sumTo (j + 1) fun j' => if (i + j') % n = t then a i * b j' else 0) = sumTo j fun j' => if (i + j') % n = t then a i * b j' else 0 := by
      show _ + (if (i + j) % n = t then a i * b j else 0) = _
      rw [if_neg (fun e => h e.symm), Int.add_zero]
    rw [e]
set_option maxHeartbeats 4000000 in
theorem cyclic_c (k : Int) (A B : Option Addr) (ca cb : Nat) (xs ys : List Int) (hu : NN xs) (hv : NN ys) (w : World) (hr : Rd .u64 w A xs) (hs : Rd .u64 w B ys) :
    Calls Try.prog 50 #[.int .i64 k, .slice A xs.length ca, .slice B ys.length cb] w fun e w' => ∃ v, e = .returned (.tuple #[v, .int .i64 (cycErr k xs.length ys.length)]) ∧ Own .u64 40 w.heap.size w' v (cycv k xs ys) ∧ Kept w w' := by
  have hm := hr.1
  have hm2 := hs.1
  have C1 := forward_c k A ca xs hu w hr
  by_cases hz : amiss k xs.length = 0
  · rw [hz] at C1
    by_cases hl : ys.length = xs.length
    · have hce : cycErr k xs.length ys.length = 0 := by unfold cycErr; rw [if_pos hz, if_pos hl]
      have hval : cycv k xs ys = mk xs.length fun t => of k (cyc xs.length (nth xs) (nth ys) t) := by unfold cycv; rw [if_pos hce]
      have HV := Lib.hid hval
      have C2 := forward_c k B cb ys hv
      rw [hl, hz] at C2
      have f2 : fwdv k ys = mk xs.length (dft k xs.length (nth ys) (rootm k (lgv xs.length))) := by rw [fwdv_eq (by rw [hl]; exact hz), hl]
      rw [f2] at C2
      rw [fwdv_eq hz] at C1
      rw [hce]
      have HP := Lib.hid (invv_prod hl hz)
      have HZ := Lib.hid hz
      obtain ⟨hpos, hmax⟩ := amiss_pos hz
      have hlb : ((ys.length : Nat) : Int) = ((xs.length : Nat) : Int) := by rw [hl]
      have hd1 := dft_nonneg k xs.length (nth xs) (rootm k (lgv xs.length))
      have hd2 := dft_nonneg k xs.length (nth ys) (rootm k (lgv xs.length))
      rw [hl]
      clear hl hlb hz hval hce f2 hm2
      generalize dft k xs.length (nth xs) (rootm k (lgv xs.length)) = d1 at *
      generalize dft k xs.length (nth ys) (rootm k (lgv xs.length)) = d2 at *
      go_enter Try.func50, Try.ntmps50
      go_wp2_with fail
      refine C1.mono ?_
      rintro e w1 ⟨v1, rfl, hown1, hk1⟩
      clear C1
      have C2 := C2 w1 (hs.kept hk1)
      go_wp2_with fail
      refine C2.mono ?_
      rintro e w2 ⟨v2, rfl, hown2, hk2⟩
      clear C2
      have hk := kept_trans hk1 hk2
      obtain ⟨g, c1, rfl⟩ := hown1.pos (by rw [mk_length]; exact hpos)
      obtain ⟨g2, c2, rfl⟩ := hown2.pos (by rw [mk_length]; exact hpos)
      have hlt1 := (World.ownsRow.lt hown1 g rfl).2
      have hlt2 := (World.ownsRow.lt hown2 g2 rfl).1
      have hgg : g2 ≠ g := by omega
      have hownI : w2.ownsRow w.heap.size 40 1 (.slice (some ⟨g, 0, none⟩) xs.length c1) xs.length ((mk xs.length (timesTo k d1 d2 0)).map (Value.int .u64)) := by
        rw [timesTo_zero]
        have h := hown1.kept hk2
        unfold Own at h
        rwa [mk_length] at h
      have hownJ : w2.ownsRow w1.heap.size 40 1 (.slice (some ⟨g2, 0, none⟩) xs.length c2) xs.length ((mk xs.length d2).map (Value.int .u64)) := by
        have h := hown2
        unfold Own at h
        rwa [mk_length] at h
      rw [mk_length, mk_length]
      clear hown1 hown2 hk1 hk2 hlt1 hlt2 hu hv hr hs
      have hall := timesTo_all k d1 d2 xs.length
      generalize hn : xs.length = n at *
      clear hm
      go_wp2_with fail
      go_loopw [35] (fun i wr => ∃ q : Nat, q ≤ n ∧ i = .int .i64 q ∧ wr.ownsRow w.heap.size 40 1 (.slice (some ⟨g, 0, none⟩) n c1) n ((mk n (timesTo k d1 d2 q)).map (Value.int .u64)) ∧ wr.ownsRow w1.heap.size 40 1 (.slice (some ⟨g2, 0, none⟩) n c2) n ((mk n d2).map (Value.int .u64)) ∧ Kept w wr) (fun i _ => n - (intOf i).toNat)
      case atStart => exact ⟨0, Nat.zero_le _, rfl, hownI, hownJ, hk⟩
      case round =>
        clear hownI hownJ hk
        obtain ⟨q, hq, rfl, hown, hown2, hk⟩ := hrel
        by_cases hlt : q < n
        · have c0 := World.ownsRow.cellAt hown q (by omega)
          rw [List.getElem?_map, List.getElem?_eq_getElem (by rw [mk_length]; omega), Option.map_some, ← nth_lt (by rw [mk_length]; omega), nth_mk hlt, timesTo_at] at c0
          have c1 := World.ownsRow.cellAt hown2 q (by omega)
          rw [List.getElem?_map, List.getElem?_eq_getElem (by rw [mk_length]; omega), Option.map_some, ← nth_lt (by rw [mk_length]; omega), nth_mk hlt] at c1
          have hset := timesTo_set k d1 d2 hlt
          have M := mul_c k (d1 q) (d2 q) (hd1 q) (hd2 q)
          generalize mulm k (d1 q) (d2 q) = y at *
          generalize d1 q = x at *
          generalize d2 q = z at *
          have HS := Lib.hid hset
          clear hset hall
          go_wp2_with fail
          have ks_c0 := fun s => kw_cell s c0
          have ks_c1 := fun s => kw_cell s c1
          refine wp_region_tail 12 (by kernel_rfl) (by kernel_rfl) ?_
          simp only [List.take_succ_cons, List.take_zero, List.drop_succ_cons, List.drop_zero]
          repeat (first | go_big_quiet_skip | (go_big_quiet_want; go_big_quiet_op; first | go_big_quiet_on | (apply Exists.intro; refine ⟨fun s => ?_, ?_⟩; (first | (go_at_call 33; exact call_kept (M _))); go_big_quiet_on)))
          refine wpQuiet_nil ?_
          rintro w7 ⟨⟨_, hk7⟩, rfl⟩
          clear ks_c0 ks_c1 c0 c1
          have hownA : w7.ownsRow w.heap.size 40 1 (.slice (some ⟨g, 0, none⟩) n _) n ((mk n (timesTo k d1 d2 q)).map (Value.int .u64)) := rowKept hown hk7
          have hownB := rowKept hown2 hk7
          have hkA := kept_trans hk hk7
          have d0 := World.ownsRow.cellAt hownA q (by omega)
          rw [List.getElem?_map, List.getElem?_eq_getElem (by rw [mk_length]; omega), Option.map_some] at d0
          have f0 := World.ownsRow.frozenAt hownA q
          have S := World.ownsRow.stored hownA q (.int .u64 y)
          rw [← List.map_set, HS.out] at S
          generalize (mk n (timesTo k d1 d2 q))[q]'(by rw [mk_length]; omega) = old at *
          have ea : (⟨g, 0, none⟩ : Addr).add q = ⟨g, q, none⟩ := by unfold Addr.add; split <;> simp_all
          clear hown hown2 hk hk7
          go_wp2_with fail
          exact ⟨⟨q + 1, by omega, by go_num, S.1, World.ownsRow.kept hownB S.2 (.inr (by simp [Value.ownBlock, hgg])), kept_grown hkA hownA (Nat.le_refl _) S.2⟩, by simp [intOf]; omega⟩
        · obtain rfl : q = n := by omega
          rw [hall] at hown
          have I := inverse_c k (some ⟨g, 0, none⟩) c1 (mk q fun j => mulm k (d1 j) (d2 j)) (nn_mk fun j _ => (mulm_bd _ _ _).1) wr (by
            have hO : Own .u64 40 w.heap.size wr (.slice (some ⟨g, 0, none⟩) q c1) (mk q fun j => mulm k (d1 j) (d2 j)) := by
              unfold Own
              rw [mk_length]
              exact hown
            obtain ⟨A', c', e, _, _, r⟩ := hO.rd
            simp only [Value.slice.injEq] at e
            rw [← e.1] at r
            exact r)
          rw [mk_length, HZ.out, HP.out] at I
          clear hall hown hown2
          go_wp2_with fail
          refine I.mono ?_
          rintro e w8 ⟨v8, rfl, hown8, hk8⟩
          clear I
          go_wp2_with fail
          exact bodyPost_ret (v := .tuple #[v8, .int .i64 0]) (by simp [results, Try.results50, go_sem]) rfl ⟨_, rfl, by rw [HV.out]; exact hown8.less hk.size, kept_trans hk hk8⟩
    · have hce : cycErr k xs.length ys.length = 21 := by unfold cycErr; rw [if_pos hz, if_neg hl]
      have hval : cycv k xs ys = [] := by unfold cycv; rw [hce]; rfl
      have HV := Lib.hid hval
      have hlb : ((ys.length : Int) == (xs.length : Int)) = false := by rw [beq_eq_false_iff_ne]; omega
      have hlc : ((ys.length : Int) != (xs.length : Int)) = true := by rw [bne_iff_ne]; omega
      rw [hce]
      clear hz hl hce hval
      go_enter Try.func50, Try.ntmps50
      go_wp2_with fail
      refine C1.mono ?_
      rintro e w1 ⟨v1, rfl, hown1, hk1⟩
      clear C1 hown1
      go_wp2_with fail
      exact bodyPost_ret (v := .tuple #[.slice none 0 0, .int .i64 21]) (by simp [results, Try.results50, go_sem]) rfl ⟨_, rfl, by rw [HV.out]; exact Own.nil _ _ _ _, hk1⟩
  · have hce : cycErr k xs.length ys.length = amiss k xs.length := by unfold cycErr; rw [if_neg hz]
    have hval : cycv k xs ys = [] := by unfold cycv; rw [hce, if_neg hz]
    have HV := Lib.hid hval
    rw [hce]
    clear hce hval
    generalize amiss k xs.length = e at *
    go_enter Try.func50, Try.ntmps50
    go_wp2_with fail
    refine C1.mono ?_
    rintro e' w1 ⟨v1, rfl, hown1, hk1⟩
    clear C1 hown1
    go_wp2_with fail
    exact bodyPost_ret (v := .tuple #[.slice none 0 0, .int .i64 e]) (by simp [results, Try.results50, go_sem]) rfl ⟨_, rfl, by rw [HV.out]; exact Own.nil _ _ _ _, hk1⟩
end Go.Proofs.Ythjedgniedpkfaa
