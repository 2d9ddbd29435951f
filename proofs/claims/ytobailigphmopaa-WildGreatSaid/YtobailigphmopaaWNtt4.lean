/-
  Layer 2 (ntt): the transform.
-/
import Derived.Test.YtobailigphmopaaWNtt3
import Derived.Test.YtobailigphmopaaTail
namespace Go.Proofs.Ytobailigphmopaa
open Go.RowKit BG
attribute [local go_sem ↓] Go.wp_at_zero Go.wp_at_succ
set_option linter.unusedVariables false

/-- The blocks up to 'at' have gone through the step. -/
def upTo (k : Int) (half : Nat) (w : Int) (F : Nat → Int) (at_ j : Nat) : Int := if j < at_ then stage k half w F j else F j
theorem upTo_nonneg {k w : Int} {half : Nat} {F : Nat → Int} (hF : ∀ j, 0 ≤ F j) (a j : Nat) : 0 ≤ upTo k half w F a j := by
  unfold upTo stage
  split
  · split <;> exact of_nonneg _ _
  · exact hF j
theorem upTo_zero (k : Int) (half : Nat) (w : Int) (F : Nat → Int) (n : Nat) : mk n (upTo k half w F 0) = mk n F := mk_congr fun j _ => by unfold upTo; rw [if_neg (by omega)]
theorem upTo_all (k : Int) (half : Nat) (w : Int) (F : Nat → Int) (n : Nat) : mk n (upTo k half w F n) = mk n (stage k half w F) := mk_congr fun j hj => by unfold upTo; rw [if_pos hj]
theorem mod_add_lt {a m r : Nat} (ha : a % m = 0) (hr : r < m) : (a + r) % m = r := by
  rw [Nat.add_mod, ha, Nat.zero_add, Nat.mod_mod, Nat.mod_eq_of_lt hr]
theorem upTo_step {k w : Int} {half a : Nat} (F : Nat → Int) (hh : 0 < half) (ha : a % (2 * half) = 0) (n : Nat) : mk n (flyTo k w a (a + half) (upTo k half w F a) half) = mk n (upTo k half w F (a + 2 * half)) := by
  refine mk_congr fun j _ => ?_
  unfold flyTo
  rw [show a + half - a = half by omega]
  by_cases h1 : a ≤ j ∧ j < a + half
  · rw [if_pos h1]
    have e1 : upTo k half w F a j = F j := by unfold upTo; rw [if_neg (by omega)]
    have e2 : upTo k half w F a (j + half) = F (j + half) := by unfold upTo; rw [if_neg (by omega)]
    have e3 : j % (2 * half) = j - a := by
      have := mod_add_lt ha (r := j - a) (by omega)
      rwa [show a + (j - a) = j by omega] at this
    rw [e1, e2]
    unfold upTo stage
    rw [if_pos (by omega), e3, if_pos (by omega)]
    unfold addm mulm
    rw [of_mul_r, of_add_r]
  · rw [if_neg h1]
    by_cases h2 : a + half ≤ j ∧ j < a + half + half
    · rw [if_pos h2]
      have e1 : upTo k half w F a j = F j := by unfold upTo; rw [if_neg (by omega)]
      have e2 : upTo k half w F a (j - half) = F (j - half) := by unfold upTo; rw [if_neg (by omega)]
      have e3 : j % (2 * half) = j - a := by
        have := mod_add_lt ha (r := j - a) (by omega)
        rwa [show a + (j - a) = j by omega] at this
      rw [e1, e2]
      unfold upTo stage
      rw [if_pos (by omega), e3, if_neg (by omega), show j - (a + half) = j - a - half by omega]
      unfold subm mulm
      rw [of_mul_r, of_sub_r]
    · rw [if_neg h2]
      unfold upTo
      by_cases h3 : j < a
      · rw [if_pos h3, if_pos (by omega)]
      · rw [if_neg h3, if_neg (by omega)]
/-- The numbers laid in the other order, the first q of them. -/
def laid (k : Int) (L : Nat) (xs : List Int) (q p : Nat) : Int := if rev L p < q then of k (nth xs (rev L p)) else 0
theorem laid_zero (k : Int) (L : Nat) (xs : List Int) (n : Nat) : mk n (laid k L xs 0) = mk n fun _ => 0 := mk_congr fun p _ => by unfold laid; rw [if_neg (by omega)]
theorem laid_set (k : Int) (L : Nat) (xs : List Int) {q : Nat} (hq : q < 2 ^ L) : (mk (2 ^ L) (laid k L xs q)).set (rev L q) (of k (nth xs q)) = mk (2 ^ L) (laid k L xs (q + 1)) := by
  rw [mk_set _ (rev_lt L q)]
  refine mk_congr fun p hp => ?_
  by_cases h : p = rev L q
  · rw [if_pos h, h]
    unfold laid
    rw [rev_rev L q hq, if_pos (by omega)]
  · rw [if_neg h]
    have hne : rev L p ≠ q := by
      intro e
      apply h
      rw [← e, rev_rev L p hp]
    unfold laid
    by_cases h2 : rev L p < q
    · rw [if_pos h2, if_pos (by omega)]
    · rw [if_neg h2, if_neg (by omega)]
theorem laid_all (k : Int) (L : Nat) (xs : List Int) : mk (2 ^ L) (laid k L xs (2 ^ L)) = mk (2 ^ L) fun p => of k (nth xs (rev L p)) := mk_congr fun p _ => by unfold laid; rw [if_pos (rev_lt L p)]
theorem mk_zero' (n : Nat) : (mk n fun _ => 0).map (Value.int .u64) = List.replicate n (Value.int .u64 0) := by
  unfold mk; rw [List.map_map]
  exact List.ext_getElem (by simp) fun i h1 h2 => by simp
theorem pow_split {L s : Nat} (hs : s < L) : 2 ^ L = 2 * 2 ^ s * 2 ^ (L - s - 1) := by
  rw [← Nat.pow_succ', ← Nat.pow_add]; congr 1; omega
set_option maxRecDepth 100000 in
set_option maxHeartbeats 4000000 in
theorem transform_c (k w0 : Int) (h0 : 0 ≤ w0) (L : Nat) (hL : L ≤ 12) (hw : RootOf k L w0) (A : Option Addr) (cap : Nat) (xs : List Int) (hu : NN xs) (hx : xs.length = 2 ^ L) (w : World) (hr : Rd .u64 w A xs) :
    Calls Try.prog 71 #[.int .i64 k, .slice A xs.length cap, .int .u64 w0] w fun e w' => ∃ v, e = .returned v ∧ Own .u64 22 w.heap.size w' v (mk xs.length (dft k xs.length (nth xs) w0)) ∧ Kept w w' := by
  obtain ⟨i1, hif1, hy0, hy1, hy2⟩ := info_parts info_u64n
  have hmax : 2 ^ L ≤ 2 ^ 12 := Nat.pow_le_pow_right (by decide) hL
  have LG := log_c ((2 ^ L : Nat) : Int)
  unfold Ltuple at LG
  rw [(log_pow L hL).1, (log_pow L hL).2] at LG
  have hord := fun q (hq : q < 2 ^ L) => (⟨rev_lt L q, laid_set k L xs hq⟩ : rev L q < 2 ^ L ∧ _)
  have hlz := laid_zero k L xs (2 ^ L)
  have hla := laid_all k L xs
  have hst := stands_start k L w0 (nth xs) (fun p => of k (nth xs (rev L p))) (fun b _ => rfl)
  have hend := fun F (h : Stands k L L w0 (nth xs) F) => stands_end h
  have hsp := fun s (hs : s < L) => pow_split hs
  have hlt2 : ∀ s, s ≤ L → (2 ^ s < 2 ^ L ↔ s < L) ∧ 2 ^ s ≤ 2 ^ L := fun s hs => ⟨Nat.pow_lt_pow_iff_right (by decide), Nat.pow_le_pow_right (by decide) hs⟩
  have hinj : ∀ q, q < 2 ^ L → _ := fun q hq => order_c q L hL hq
  rw [hx]
  have HW := Lib.hid hw
  generalize hN : 2 ^ L = N at *
  have HN := Lib.hid hN
  clear hN hw
  go_enter Try.func71, Try.ntmps71
  go_wp2_with fail
  refine (LG _).mono ?_
  rintro e w1 ⟨rfl, hk1⟩
  clear LG
  go_wp2_with (refine wpList_make_full _ rfl (.tmp 24) (.tmp 24) 33 rfl w.heap.size 22 i1 (.int .u64 0) 1 Try.underlying33 hif1 hy0 hy1 .i64 .i64 _ _ N rfl rfl (by simp) (by simp) ?b2 ?b3 ?b4 ?_)
  case b2 => rw [hy2]; omega
  case b3 => unfold maxLen; omega
  case b4 => exact hk1.size
  intro w4 hown4 hgrow
  have K4 : Kept w w4 := hk1.grown hgrow hk1.size (fun k h => by cases h)
  rw [toList_madeCells_one] at hown4
  have hown5 : w4.ownsRow w.heap.size 22 1 (.slice (some ⟨w1.heap.size, 0, none⟩) N N) N ((mk N (laid k L xs 0)).map (Value.int .u64)) := by
    rw [hlz, mk_zero']; exact hown4
  clear hown4 hgrow hlz hk1
  generalize w1.heap.size = g at *
  go_wp2_with fail
  go_loopw [28] (fun i wr => ∃ q : Nat, q ≤ N ∧ i = .int .i64 q ∧ wr.ownsRow w.heap.size 22 1 (.slice (some ⟨g, 0, none⟩) N N) N ((mk N (laid k L xs q)).map (Value.int .u64)) ∧ Kept w wr) (fun i _ => N - (intOf i).toNat)
  case atStart => exact ⟨0, Nat.zero_le _, rfl, hown5, K4⟩
  case round =>
    clear hown5 K4
    obtain ⟨q, hq, rfl, hown, hk⟩ := hrel
    by_cases hlt : q < N
    · obtain ⟨ad, rfl, c0⟩ := (hr.kept hk).at_ (j := q) (by omega)
      have O1 := hinj q hlt
      obtain ⟨r1, r2⟩ := hord q hlt
      have O2 := of_c k (nth xs q) (hu q)
      have R2 := Lib.hid r2
      clear r2 hla hst hend hsp hlt2 hinj hord
      generalize rev L q = r at *
      generalize nth xs q = x at *
      generalize of k x = y at *
      go_wp2_with fail
      refine (O1 _).mono ?_
      rintro e w2 ⟨rfl, hk2⟩
      go_wp2_with fail
      refine (O2 _).mono ?_
      rintro e w3 ⟨rfl, hk3⟩
      have K := kept_trans hk2 hk3
      have hownA : w3.ownsRow w.heap.size 22 1 (.slice (some ⟨g, 0, none⟩) N N) N ((mk N (laid k L xs q)).map (Value.int .u64)) := rowKept hown K
      have d0 := World.ownsRow.cellAt hownA r (by omega)
      rw [List.getElem?_map, List.getElem?_eq_getElem (by rw [mk_length]; omega), Option.map_some] at d0
      have f0 := World.ownsRow.frozenAt hownA r
      have S := World.ownsRow.stored hownA r (.int .u64 y)
      rw [← List.map_set, R2.out] at S
      generalize (mk N (laid k L xs q))[r]'(by rw [mk_length]; omega) = old at *
      have hkA := kept_trans hk K
      have ea : (⟨g, 0, none⟩ : Addr).add r = ⟨g, r, none⟩ := by unfold Addr.add; split <;> simp_all
      clear hown hk hk2 hk3
      go_wp2_with fail
      exact ⟨⟨q + 1, by omega, by go_num, S.1, kept_grown hkA hownA (Nat.le_refl _) S.2⟩, by simp [intOf]; omega⟩
    · obtain rfl : q = N := by omega
      rw [hla] at hown
      clear hinj hord hla
      go_wp2_with fail
      go_loopw [13] (fun hv wx => ∃ s : Nat, s ≤ L ∧ hv = .int .i64 ((2 ^ s : Nat) : Int) ∧ (∃ F : Nat → Int, Stands k L s w0 (nth xs) F ∧ (∀ j, 0 ≤ F j) ∧ wx.ownsRow w.heap.size 22 1 (.slice (some ⟨g, 0, none⟩) q q) q ((mk q F).map (Value.int .u64))) ∧ Kept w wx) (fun hv _ => q - (intOf hv).toNat)
      case atStart => exact ⟨0, Nat.zero_le _, by simp, ⟨_, hst, fun j => of_nonneg _ _, hown⟩, hk⟩
      case round =>
        clear hown hk hst
        obtain ⟨s, hs, rfl, ⟨F, hS, hF, hown⟩, hk⟩ := hrel
        obtain ⟨hl1, hl2⟩ := hlt2 s hs
        by_cases hsl : s < L
        · have hsplit := hsp s hsl
          have hHN := hl1.2 hsl
          have hpos : 0 < 2 ^ s := Nat.two_pow_pos s
          have hDpos : 0 < 2 ^ (L - s - 1) := Nat.two_pow_pos _
          have P := pow_c k w0 ((2 ^ (L - s - 1) : Nat) : Int) h0 (Int.natCast_nonneg _) (by have : 2 ^ (L - s - 1) ≤ 2 ^ 12 := Nat.pow_le_pow_right (by decide) (by omega); omega)
          have hv : Cong k (pw k w0 ((2 ^ (L - s - 1) : Nat) : Int)) (w0 ^ (2 ^ (L - s - 1))) := by unfold pw; rw [Int.toNat_natCast]; exact cong_of _ _
          have hv0 := (pw_bd k w0 ((2 ^ (L - s - 1) : Nat) : Int)).1
          have hstep := stands_step HW.out hsl hS _ hv
          have hnext : ((2 ^ (s + 1) : Nat) : Int) = ((2 ^ s : Nat) : Int) * 2 := by rw [Nat.pow_succ, Int.natCast_mul]; rfl
          have hlt3 := (hlt2 (s + 1) hsl).2
          generalize pw k w0 ((2 ^ (L - s - 1) : Nat) : Int) = v at *
          generalize 2 ^ (L - s - 1) = D at *
          rw [Nat.pow_succ] at hlt3
          generalize 2 ^ s = H at *
          have hdiv : ((q : Nat) : Int).tdiv (2 * (H : Int)) = (D : Int) := by
            rw [hsplit, Int.tdiv_eq_ediv_of_nonneg (Int.natCast_nonneg _), Int.natCast_mul, Int.natCast_mul]
            exact Int.mul_ediv_cancel_left _ (by omega)
          have hqm : q % (2 * H) = 0 := by rw [hsplit]; exact Nat.mul_mod_right _ _
          have hDq : D ≤ q := by rw [hsplit]; exact Nat.le_mul_of_pos_left _ (by omega)
          have HSP := Lib.hid hsplit
          have HST := Lib.hid hstep
          have HNX := Lib.hid hnext
          have HQM := Lib.hid hqm
          have HV := Lib.hid hv
          clear hsplit hl1 hsp hlt2 hend hv hstep hnext hqm
          have hn2 : ¬ (2 * (H : Int)) = 0 := by omega
          go_wp2_with fail
          refine (P _).mono ?_
          rintro e w5 ⟨rfl, hk5⟩
          replace hown := rowKept hown hk5
          replace hk := kept_trans hk hk5
          clear hk5 P hdiv
          rw [← upTo_zero k H v F q] at hown
          go_wp2_with fail
          go_loopw [15] (fun av wy => ∃ a : Nat, a ≤ q ∧ a % (2 * H) = 0 ∧ av = .int .i64 a ∧ wy.ownsRow w.heap.size 22 1 (.slice (some ⟨g, 0, none⟩) q q) q ((mk q (upTo k H v F a)).map (Value.int .u64)) ∧ Kept w wy) (fun av _ => q - (intOf av).toNat)
          case atStart => exact ⟨0, Nat.zero_le _, by simp, rfl, hown, hk⟩
          case round =>
            clear hown hk
            obtain ⟨a, ha, hm, rfl, hown, hk⟩ := hrel
            by_cases hlt : a < q
            · have hle : a + 2 * H ≤ q := by
                have hqm := HQM.out
                obtain ⟨c, rfl⟩ := Nat.dvd_of_mod_eq_zero hm
                obtain ⟨d, rfl⟩ := Nat.dvd_of_mod_eq_zero hqm
                have : c < d := Nat.lt_of_mul_lt_mul_left hlt
                have := Nat.mul_le_mul_left (2 * H) (show c + 1 ≤ d by omega)
                rw [Nat.mul_add, Nat.mul_one] at this
                exact this
              have hm2 : (a + 2 * H) % (2 * H) = 0 := by rw [Nat.add_mod_right]; exact hm
              have hUS := upTo_step (k := k) (w := v) F hpos hm q
              have HUS := Lib.hid hUS
              have HM2 := Lib.hid hm2
              clear hUS hm2 hm
              go_wp2_with fail
              refine wp_region_tail 16 (by kernel_rfl) (by kernel_rfl) ?_
              simp only [List.take_succ_cons, List.take_zero, List.drop_succ_cons, List.drop_zero]
              repeat (first | go_big_quiet_skip | (go_big_quiet_want; go_big_quiet_op; first | go_big_quiet_on | fail))
              refine wpQuiet_nil ?_
              rintro w6 ⟨⟨_, hk6⟩, rfl⟩
              have FL := fly_c k v hv0 g q q a (a + H) H H (upTo k H v F a) (upTo_nonneg hF a) H (Lib.hid rfl) (by omega) (by omega) w.heap.size w6 (rowKept hown hk6) (kept_trans hk hk6).size
              have hk' := kept_trans hk hk6
              go_wp2_with fail
              refine FL.mono ?_
              rintro e w7 ⟨rfl, hown7, hk7⟩
              clear FL
              rw [HUS.out] at hown7
              have K7 := hk7 w hk' (Nat.le_refl _)
              clear hown hk hk6 hk' hk7
              go_wp2_with fail
              exact ⟨⟨a + 2 * H, by omega, HM2.out, by go_num, hown7, K7⟩, by simp [intOf]; omega⟩
            · obtain rfl : a = q := by omega
              rw [upTo_all] at hown
              go_wp2_with fail
              exact ⟨⟨s + 1, by omega, by rw [HNX.out], ⟨_, HST.out, fun j => by unfold stage; split <;> exact of_nonneg _ _, hown⟩, hk⟩, by simp [intOf]; omega⟩
        · obtain rfl : s = L := by omega
          have e : mk q F = mk q (dft k q (nth xs) w0) := mk_congr fun j hj => hend F hS j hj
          rw [e] at hown
          rw [HN.out]
          clear e hS hend hsp hlt2 hl1 hl2
          have hq0 : ¬ (q : Int) < q := by omega
          go_wp2_with fail
          have hO : Own .u64 22 w.heap.size wr (.slice (some ⟨g, 0, none⟩) q q) (mk q (dft k q (nth xs) w0)) := by
            unfold Own
            rw [mk_length]
            exact hown
          exact bodyPost_ret (v := .slice (some ⟨g, 0, none⟩) q q) (by simp [results, Try.results71, go_sem]) rfl ⟨_, rfl, hO, hk⟩
end Go.Proofs.Ytobailigphmopaa
