/-
  Texts of one claim, joined: WNtt3, WNtt4, WCls5, CrtP, WCrt, WRows.
-/
import Derived.RangeFuncBox
import Derived.Test.YtdejablhpljdfaaGreatQ03
import Derived.Test.YtdejablhpljdfaaGreatQ02
import Derived.Test.YtdejablhpljdfaaGreatQ01
namespace Go.Proofs.YtdejablhpljdfaaGreat
open Go.RowKit BG
attribute [local go_sem ↓] Go.wp_at_zero Go.wp_at_succ
set_option linter.unusedVariables false
theorem mk_set {n : Nat} (f : Nat → Int) {j : Nat} (hj : j < n) (u : Int) : (mk n f).set j u = mk n fun p => if p = j then u else f p := by
  refine List.ext_getElem (by simp [mk]) fun i h1 h2 => ?_
  rw [List.getElem_set]
  simp only [mk, List.getElem_map, List.getElem_range]
  by_cases h : j = i
  · subst h; simp
  · rw [if_neg h, if_neg (fun e => h e.symm)]
theorem rowKept {base n size : Nat} {e : TypeId} {v : Value} {xs : List Value} {w w1 : World} (h : w.ownsRow base e size v n xs) (hk : Kept w w1) : w1.ownsRow base e size v n xs :=
  World.ownsRow.kept h (⟨hk.os, hk.tape, hk.output, hk.size, fun i hi _ => hk.block i hi⟩ : w.grownBy w1 none) (by cases v.ownBlock <;> simp)
def flyTo (k w : Int) (lo hi : Nat) (F : Nat → Int) (t : Nat) (j : Nat) : Int :=
  if lo ≤ j ∧ j < lo + t then addm k (F j) (mulm k (F (j + (hi - lo))) (of k (w ^ (j - lo))))
  else if hi ≤ j ∧ j < hi + t then subm k (F (j - (hi - lo))) (mulm k (F j) (of k (w ^ (j - hi)))) else F j
theorem flyTo_zero (k w : Int) (lo hi : Nat) (F : Nat → Int) (j : Nat) : flyTo k w lo hi F 0 j = F j := by
  unfold flyTo; rw [if_neg (by omega), if_neg (by omega)]
theorem flyTo_at {k w : Int} {lo hi t : Nat} (F : Nat → Int) (ht : lo + t < hi) : flyTo k w lo hi F t (lo + t) = F (lo + t) ∧ flyTo k w lo hi F t (hi + t) = F (hi + t) := by
  unfold flyTo
  exact ⟨by rw [if_neg (by omega), if_neg (by omega)], by rw [if_neg (by omega), if_neg (by omega)]⟩
theorem flyTo_set {k w : Int} {lo hi n t : Nat} (F : Nat → Int) (ht : lo + t < hi) (hn : hi + t < n) :
    ((mk n (flyTo k w lo hi F t)).set (lo + t) (addm k (F (lo + t)) (mulm k (F (hi + t)) (of k (w ^ t))))).set (hi + t) (subm k (F (lo + t)) (mulm k (F (hi + t)) (of k (w ^ t)))) = mk n (flyTo k w lo hi F (t + 1)) := by
  rw [mk_set _ (by omega), mk_set _ hn]
  refine mk_congr fun j hj => ?_
  by_cases h1 : j = hi + t
  · rw [if_pos h1, h1]
    unfold flyTo
    rw [if_neg (by omega), if_pos (by omega), show hi + t - (hi - lo) = lo + t by omega, show hi + t - hi = t by omega]
  · rw [if_neg h1]
    by_cases h2 : j = lo + t
    · rw [if_pos h2, h2]
      unfold flyTo
      rw [if_pos (by omega), show lo + t + (hi - lo) = hi + t by omega, show lo + t - lo = t by omega]
    · rw [if_neg h2]
      unfold flyTo
      by_cases h3 : lo ≤ j ∧ j < lo + t
      · rw [if_pos h3, if_pos (by omega)]
      · rw [if_neg h3, if_neg (show ¬ (lo ≤ j ∧ j < lo + (t + 1)) by omega)]
        by_cases h4 : hi ≤ j ∧ j < hi + t
        · rw [if_pos h4, if_pos (by omega)]
        · rw [if_neg h4, if_neg (by omega)]
theorem fly_c (k w0 : Int) (h0 : 0 ≤ w0) (g n cap lo hi ca cb : Nat) (F : Nat → Int) (hF : ∀ j, 0 ≤ F j) (half : Nat) (HH : Hid (hi = lo + half)) (hn : hi + half ≤ n) (hmax : n ≤ 1000000000000) (base : Nat) (w : World) (hown : w.ownsRow base 108 1 (.slice (some ⟨g, 0, none⟩) n cap) n ((mk n F).map (Value.int .u64))) (hb : base ≤ w.heap.size) :
    Calls Tryz.prog 207 #[.int .i64 k, .slice (some ⟨g, lo, none⟩) half ca, .slice (some ⟨g, hi, none⟩) half cb, .int .u64 w0] w fun e w' => e = .returned (.tuple #[]) ∧ w'.ownsRow base 108 1 (.slice (some ⟨g, 0, none⟩) n cap) n ((mk n (flyTo k w0 lo hi F half)).map (Value.int .u64)) ∧ (∀ w1, Kept w1 w → w1.heap.size ≤ base → Kept w1 w') := by
  have O := of_c k 1 (by decide)
  have e0 : mk n F = mk n (flyTo k w0 lo hi F 0) := mk_congr fun j _ => (flyTo_zero _ _ _ _ _ _).symm
  rw [e0] at hown
  clear e0
  go_enter Tryz.func207, Tryz.ntmps207
  go_wp2_with fail
  refine (O _).mono ?_
  rintro e w1 ⟨rfl, hk1⟩
  have hown1 : w1.ownsRow base 108 1 (.slice (some ⟨g, 0, none⟩) n cap) n ((mk n (flyTo k w0 lo hi F 0)).map (Value.int .u64)) := rowKept hown hk1
  go_wp2_with fail
  go_loopw [8, 16] (fun f i wr => ∃ t : Nat, t ≤ half ∧ i = .int .i64 t ∧ f = .int .u64 (of k (w0 ^ t)) ∧ wr.ownsRow base 108 1 (.slice (some ⟨g, 0, none⟩) n cap) n ((mk n (flyTo k w0 lo hi F t)).map (Value.int .u64)) ∧ (∀ w2, Kept w2 w → w2.heap.size ≤ base → Kept w2 wr) ∧ base ≤ wr.heap.size) (fun _ i _ => half - (intOf i).toNat)
  case atStart => exact ⟨0, Nat.zero_le _, rfl, by rw [Int.pow_zero], hown1, fun w2 hk _ => kept_trans hk hk1, Nat.le_trans hb hk1.size⟩
  case round =>
    clear hown hown1 hk1 O
    obtain ⟨t, ht, rfl, rfl, hown, hk, hbw⟩ := hrel
    by_cases hlt : t < half
    · have c0 := World.ownsRow.cellAt hown (lo + t) (by have := HH.out; omega)
      have c1 := World.ownsRow.cellAt hown (hi + t) (by omega)
      have hlh : lo + t < hi := by have := HH.out; omega
      obtain ⟨f1, f2⟩ := flyTo_at (k := k) (w := w0) F hlh
      have ln : (mk n (flyTo k w0 lo hi F t)).length = n := mk_length _ _
      rw [List.getElem?_map, List.getElem?_eq_getElem (by have := HH.out; omega), Option.map_some, ← nth_lt (by have := HH.out; omega), nth_mk (by have := HH.out; omega), f1] at c0
      rw [List.getElem?_map, List.getElem?_eq_getElem (by omega), Option.map_some, ← nth_lt (by omega), nth_mk (by omega), f2] at c1
      have S := flyTo_set (k := k) (w := w0) (n := n) F hlh (by omega)
      have hf0 := of_nonneg k (w0 ^ t)
      have hx := hF (lo + t)
      have hy := hF (hi + t)
      have M1 := mul_c k (F (hi + t)) (of k (w0 ^ t)) hy hf0
      have hm0 := (mulm_bd k (F (hi + t)) (of k (w0 ^ t))).1
      have M2 := add_c k (F (lo + t)) (mulm k (F (hi + t)) (of k (w0 ^ t))) hx hm0
      have M3 := sub_c k (F (lo + t)) (mulm k (F (hi + t)) (of k (w0 ^ t))) hx hm0
      have e2 : mulm k (of k (w0 ^ t)) w0 = of k (w0 ^ (t + 1)) := by unfold mulm; rw [of_mul_l, Int.pow_succ]
      have M4 := mul_c k (of k (w0 ^ t)) w0 hf0 h0
      rw [e2] at M4
      have hPQ : lo + t ≠ hi + t := by have := HH.out; omega
      have hPn : lo + t < n := by have := HH.out; omega
      have hQn : hi + t < n := by omega
      generalize addm k (F (lo + t)) (mulm k (F (hi + t)) (of k (w0 ^ t))) = u at *
      generalize subm k (F (lo + t)) (mulm k (F (hi + t)) (of k (w0 ^ t))) = v at *
      generalize mulm k (F (hi + t)) (of k (w0 ^ t)) = y at *
      generalize F (lo + t) = x at *
      generalize F (hi + t) = z at *
      generalize of k (w0 ^ t) = f at *
      generalize hf' : of k (w0 ^ (t + 1)) = f' at *
      have HF := Lib.hid hf'
      have HS := Lib.hid S
      clear f1 f2 ln e2 hf' S
      go_wp2_with fail
      have ks_c0 := fun s => kw_cell s c0
      have ks_c1 := fun s => kw_cell s c1
      have M1' := M1
      refine wp_region_kept (by kernel_rfl) (by kernel_rfl) ?_
      repeat (first | go_big_quiet_skip | (go_big_quiet_want; go_big_quiet_op; first | go_big_quiet_on | (apply Exists.intro; refine ⟨fun s => ?_, ?_⟩; (first | (go_at_call 103; exact call_kept (M1 _))); go_big_quiet_on)))
      refine wpQuiet_nil ?_
      rintro w2 ⟨⟨_, hk2⟩, rfl⟩
      clear ks_c0 ks_c1 c0 c1
      go_wp2_with fail
      refine (M2 _).mono ?_
      rintro e w3 ⟨rfl, hk3⟩
      go_wp2_with fail
      refine (M3 _).mono ?_
      rintro e w4 ⟨rfl, hk4⟩
      have K := kept_trans hk2 (kept_trans hk3 hk4)
      have hownA : w4.ownsRow base 108 1 (.slice (some ⟨g, 0, none⟩) n cap) n ((mk n (flyTo k w0 lo hi F t)).map (Value.int .u64)) := rowKept hown K
      have hkA := fun w2 h2 h3 => kept_trans (hk w2 h2 h3) K
      have d0 := World.ownsRow.cellAt hownA (lo + t) (by omega)
      rw [List.getElem?_map, List.getElem?_eq_getElem (by rw [mk_length]; omega), Option.map_some] at d0
      have f0 := World.ownsRow.frozenAt hownA (lo + t)
      have S1 := World.ownsRow.stored hownA (lo + t) (.int .u64 u)
      have d1 := World.ownsRow.cellAt S1.1 (hi + t) (by omega)
      rw [List.getElem?_set_ne hPQ, List.getElem?_map, List.getElem?_eq_getElem (by rw [mk_length]; omega), Option.map_some] at d1
      have f1 := World.ownsRow.frozenAt S1.1 (hi + t)
      have S2 := World.ownsRow.stored S1.1 (hi + t) (.int .u64 v)
      rw [← List.map_set, ← List.map_set, HS.out] at S2
      generalize (mk n (flyTo k w0 lo hi F t))[lo + t]'(by rw [mk_length]; omega) = old at *
      generalize (mk n (flyTo k w0 lo hi F t))[hi + t]'(by rw [mk_length]; omega) = old2 at *
      have hkB := fun w2 h2 h3 => kept_grown (kept_grown (hkA w2 h2 h3) hownA h3 S1.2) S1.1 h3 S2.2
      clear hown hk hk2 hk3 hk4
      go_wp2_with fail
      refine (M4 _).mono ?_
      rintro e w5 ⟨rfl, hk5⟩
      go_wp2_with fail
      exact ⟨⟨t + 1, by omega, by go_num, by rw [HF.out], rowKept S2.1 hk5, fun w2 h2 h3 => kept_trans (hkB w2 h2 h3) hk5, Nat.le_trans (Nat.le_trans hbw K.size) (Nat.le_trans (by simp) hk5.size)⟩, by simp [intOf]; omega⟩
    · obtain rfl : t = half := by omega
      go_wp2_with fail
      exact bodyPost_end (v := .tuple #[]) (by simp [results, Tryz.results207, go_sem]) rfl ⟨rfl, hown, hk⟩
end Go.Proofs.YtdejablhpljdfaaGreat
namespace Go.Proofs.YtdejablhpljdfaaGreat
open Go.RowKit BG
attribute [local go_sem ↓] Go.wp_at_zero Go.wp_at_succ
set_option linter.unusedVariables false
def upTo (k : Int) (half : Nat) (w : Int) (F : Nat → Int) (at_ j : Nat) : Int := if j < at_ then stage k half w F j else F j
theorem upTo_nonneg {k w : Int} {half : Nat} {F : Nat → Int} (hF : ∀ j, 0 ≤ F j) (a j : Nat) : 0 ≤ upTo k half w F a j := by
  unfold upTo stage
  split
  · split <;> exact of_nonneg _ _
  · exact hF j
theorem upTo_zero (k : Int) (half : Nat) (w : Int) (F : Nat → Int) (n : Nat) : mk n (upTo k half w F 0) = mk n F := mk_congr fun j _ => by unfold upTo; rw [if_neg (by omega)]
theorem upTo_all (k : Int) (half : Nat) (w : Int) (F : Nat → Int) (n : Nat) : mk n (upTo k half w F n) = mk n (stage k half w F) := mk_congr fun j hj => by unfold upTo; rw [if_pos hj]
theorem mod_add_lt {a m r : Nat} (ha : a % m = 0) (hr : r < m) : (a + r) % m = r := by
  rw [Nat.add_mod, ha, Nat.zero_add, Nat.mod_mod, Nat.mod_eq_of_lt hr]
theorem upTo_step {k w : Int} {half a : Nat} (F : Nat → Int) (hh : 0 < half) (ha : a % (2 * half) = 0) (n : Nat) : mk n (flyTo k w a (a + half) (upTo k half w F a) half) = mk n (upTo k half w F (a + 2 * half)) := by
  refine mk_congr fun j _ => ?_
  unfold flyTo
  rw [show a + half - a = half by omega]
  by_cases h1 : a ≤ j ∧ j < a + half
  · rw [if_pos h1]
    have e1 : upTo k half w F a j = F j := by unfold upTo; rw [if_neg (by omega)]
    have e2 : upTo k half w F a (j + half) = F (j + half) := by unfold upTo; rw [if_neg (by omega)]
    have e3 : j % (2 * half) = j - a := by
      have := mod_add_lt ha (r := j - a) (by omega)
      rwa [show a + (j - a) = j by omega] at this
    rw [e1, e2]
    unfold upTo stage
    rw [if_pos (by omega), e3, if_pos (by omega)]
    unfold addm mulm
    rw [of_mul_r, of_add_r]
  · rw [if_neg h1]
    by_cases h2 : a + half ≤ j ∧ j < a + half + half
    · rw [if_pos h2]
      have e1 : upTo k half w F a j = F j := by unfold upTo; rw [if_neg (by omega)]
      have e2 : upTo k half w F a (j - half) = F (j - half) := by unfold upTo; rw [if_neg (by omega)]
      have e3 : j % (2 * half) = j - a := by
        have := mod_add_lt ha (r := j - a) (by omega)
        rwa [show a + (j - a) = j by omega] at this
      rw [e1, e2]
      unfold upTo stage
      rw [if_pos (by omega), e3, if_neg (by omega), show j - (a + half) = j - a - half by omega]
      unfold subm mulm
      rw [of_mul_r, of_sub_r]
    · rw [if_neg h2]
      unfold upTo
      by_cases h3 : j < a
      · rw [if_pos h3, if_pos (by omega)]
      · rw [if_neg h3, if_neg (by omega)]
def laid (k : Int) (L : Nat) (xs : List Int) (q p : Nat) : Int := if rev L p < q then of k (nth xs (rev L p)) else 0
theorem laid_zero (k : Int) (L : Nat) (xs : List Int) (n : Nat) : mk n (laid k L xs 0) = mk n fun _ => 0 := mk_congr fun p _ => by unfold laid; rw [if_neg (by omega)]
theorem laid_set (k : Int) (L : Nat) (xs : List Int) {q : Nat} (hq : q < 2 ^ L) : (mk (2 ^ L) (laid k L xs q)).set (rev L q) (of k (nth xs q)) = mk (2 ^ L) (laid k L xs (q + 1)) := by
  rw [mk_set _ (rev_lt L q)]
  refine mk_congr fun p hp => ?_
  by_cases h : p = rev L q
  · rw [if_pos h, h]
    unfold laid
    rw [rev_rev L q hq, if_pos (by omega)]
  · rw [if_neg h]
    have hne : rev L p ≠ q := by
      intro e
      apply h
      rw [← e, rev_rev L p hp]
    unfold laid
    by_cases h2 : rev L p < q
    · rw [if_pos h2, if_pos (by omega)]
    · rw [if_neg h2, if_neg (by omega)]
theorem laid_all (k : Int) (L : Nat) (xs : List Int) : mk (2 ^ L) (laid k L xs (2 ^ L)) = mk (2 ^ L) fun p => of k (nth xs (rev L p)) := mk_congr fun p _ => by unfold laid; rw [if_pos (rev_lt L p)]
theorem mk_zero' (n : Nat) : (mk n fun _ => 0).map (Value.int .u64) = List.replicate n (Value.int .u64 0) := by
  unfold mk; rw [List.map_map]
  exact List.ext_getElem (by simp) fun i h1 h2 => by simp
theorem pow_split {L s : Nat} (hs : s < L) : 2 ^ L = 2 * 2 ^ s * 2 ^ (L - s - 1) := by
  rw [← Nat.pow_succ', ← Nat.pow_add]; congr 1; omega
set_option maxRecDepth 100000 in
set_option maxHeartbeats 4000000 in
theorem transform_c (k w0 : Int) (h0 : 0 ≤ w0) (L : Nat) (hL : L ≤ 12) (hw : RootOf k L w0) (A : Option Addr) (cap : Nat) (xs : List Int) (hu : NN xs) (hx : xs.length = 2 ^ L) (w : World) (hr : Rd .u64 w A xs) :
    Calls Tryz.prog 158 #[.int .i64 k, .slice A xs.length cap, .int .u64 w0] w fun e w' => ∃ v, e = .returned v ∧ Own .u64 108 w.heap.size w' v (mk xs.length (dft k xs.length (nth xs) w0)) ∧ Kept w w' := by
  obtain ⟨i1, hif1, hy0, hy1, hy2⟩ := info_parts info_u64n
  have hmax : 2 ^ L ≤ 2 ^ 12 := Nat.pow_le_pow_right (by decide) hL
  have LG := log_c ((2 ^ L : Nat) : Int)
  unfold Ltuple at LG
  rw [(log_pow L hL).1, (log_pow L hL).2] at LG
  have hord := fun q (hq : q < 2 ^ L) => (⟨rev_lt L q, laid_set k L xs hq⟩ : rev L q < 2 ^ L ∧ _)
  have hlz := laid_zero k L xs (2 ^ L)
  have hla := laid_all k L xs
  have hst := stands_start k L w0 (nth xs) (fun p => of k (nth xs (rev L p))) (fun b _ => rfl)
  have hend := fun F (h : Stands k L L w0 (nth xs) F) => stands_end h
  have hsp := fun s (hs : s < L) => pow_split hs
  have hlt2 : ∀ s, s ≤ L → (2 ^ s < 2 ^ L ↔ s < L) ∧ 2 ^ s ≤ 2 ^ L := fun s hs => ⟨Nat.pow_lt_pow_iff_right (by decide), Nat.pow_le_pow_right (by decide) hs⟩
  have hinj : ∀ q, q < 2 ^ L → _ := fun q hq => order_c q L hL hq
  rw [hx]
  have HW := Lib.hid hw
  generalize hN : 2 ^ L = N at *
  have HN := Lib.hid hN
  clear hN hw
  go_enter Tryz.func158, Tryz.ntmps158
  go_wp2_with fail
  refine (LG _).mono ?_
  rintro e w1 ⟨rfl, hk1⟩
  clear LG
  go_wp2_with (refine wpList_make_full _ rfl (.tmp 24) (.tmp 24) 123 rfl w.heap.size 108 i1 (.int .u64 0) 1 Tryz.underlying123 hif1 hy0 hy1 .i64 .i64 _ _ N rfl rfl (by simp) (by simp) ?b2 ?b3 ?b4 ?_)
  case b2 => rw [hy2]; omega
  case b3 => unfold maxLen; omega
  case b4 => exact hk1.size
  intro w4 hown4 hgrow
  have K4 : Kept w w4 := hk1.grown hgrow hk1.size (fun k h => by cases h)
  rw [toList_madeCells_one] at hown4
  have hown5 : w4.ownsRow w.heap.size 108 1 (.slice (some ⟨w1.heap.size, 0, none⟩) N N) N ((mk N (laid k L xs 0)).map (Value.int .u64)) := by
    rw [hlz, mk_zero']; exact hown4
  clear hown4 hgrow hlz hk1
  generalize w1.heap.size = g at *
  go_wp2_with fail
  go_loopw [28] (fun i wr => ∃ q : Nat, q ≤ N ∧ i = .int .i64 q ∧ wr.ownsRow w.heap.size 108 1 (.slice (some ⟨g, 0, none⟩) N N) N ((mk N (laid k L xs q)).map (Value.int .u64)) ∧ Kept w wr) (fun i _ => N - (intOf i).toNat)
  case atStart => exact ⟨0, Nat.zero_le _, rfl, hown5, K4⟩
  case round =>
    clear hown5 K4
    obtain ⟨q, hq, rfl, hown, hk⟩ := hrel
    by_cases hlt : q < N
    · obtain ⟨ad, rfl, c0⟩ := (hr.kept hk).at_ (j := q) (by omega)
      have O1 := hinj q hlt
      obtain ⟨r1, r2⟩ := hord q hlt
      have O2 := of_c k (nth xs q) (hu q)
      have R2 := Lib.hid r2
      clear r2 hla hst hend hsp hlt2 hinj hord
      generalize rev L q = r at *
      generalize nth xs q = x at *
      generalize of k x = y at *
      go_wp2_with fail
      refine (O1 _).mono ?_
      rintro e w2 ⟨rfl, hk2⟩
      go_wp2_with fail
      refine (O2 _).mono ?_
      rintro e w3 ⟨rfl, hk3⟩
      have K := kept_trans hk2 hk3
      have hownA : w3.ownsRow w.heap.size 108 1 (.slice (some ⟨g, 0, none⟩) N N) N ((mk N (laid k L xs q)).map (Value.int .u64)) := rowKept hown K
      have d0 := World.ownsRow.cellAt hownA r (by omega)
      rw [List.getElem?_map, List.getElem?_eq_getElem (by rw [mk_length]; omega), Option.map_some] at d0
      have f0 := World.ownsRow.frozenAt hownA r
      have S := World.ownsRow.stored hownA r (.int .u64 y)
      rw [← List.map_set, R2.out] at S
      generalize (mk N (laid k L xs q))[r]'(by rw [mk_length]; omega) = old at *
      have hkA := kept_trans hk K
      have ea : (⟨g, 0, none⟩ : Addr).add r = ⟨g, r, none⟩ := by unfold Addr.add; split <;> simp_all
      clear hown hk hk2 hk3
      go_wp2_with fail
      exact ⟨⟨q + 1, by omega, by go_num, S.1, kept_grown hkA hownA (Nat.le_refl _) S.2⟩, by simp [intOf]; omega⟩
    · obtain rfl : q = N := by omega
      rw [hla] at hown
      clear hinj hord hla
      go_wp2_with fail
      go_loopw [13] (fun hv wx => ∃ s : Nat, s ≤ L ∧ hv = .int .i64 ((2 ^ s : Nat) : Int) ∧ (∃ F : Nat → Int, Stands k L s w0 (nth xs) F ∧ (∀ j, 0 ≤ F j) ∧ wx.ownsRow w.heap.size 108 1 (.slice (some ⟨g, 0, none⟩) q q) q ((mk q F).map (Value.int .u64))) ∧ Kept w wx) (fun hv _ => q - (intOf hv).toNat)
      case atStart => exact ⟨0, Nat.zero_le _, by simp, ⟨_, hst, fun j => of_nonneg _ _, hown⟩, hk⟩
      case round =>
        clear hown hk hst
        obtain ⟨s, hs, rfl, ⟨F, hS, hF, hown⟩, hk⟩ := hrel
        obtain ⟨hl1, hl2⟩ := hlt2 s hs
        by_cases hsl : s < L
        · have hsplit := hsp s hsl
          have hHN := hl1.2 hsl
          have hpos : 0 < 2 ^ s := Nat.two_pow_pos s
          have hDpos : 0 < 2 ^ (L - s - 1) := Nat.two_pow_pos _
          have P := pow_c k w0 ((2 ^ (L - s - 1) : Nat) : Int) h0 (Int.natCast_nonneg _) (by have : 2 ^ (L - s - 1) ≤ 2 ^ 12 := Nat.pow_le_pow_right (by decide) (by omega); omega)
          have hv : Cong k (pw k w0 ((2 ^ (L - s - 1) : Nat) : Int)) (w0 ^ (2 ^ (L - s - 1))) := by unfold pw; rw [Int.toNat_natCast]; exact cong_of _ _
          have hv0 := (pw_bd k w0 ((2 ^ (L - s - 1) : Nat) : Int)).1
          have hstep := stands_step HW.out hsl hS _ hv
          have hnext : ((2 ^ (s + 1) : Nat) : Int) = ((2 ^ s : Nat) : Int) * 2 := by rw [Nat.pow_succ, Int.natCast_mul]; rfl
          have hlt3 := (hlt2 (s + 1) hsl).2
          generalize pw k w0 ((2 ^ (L - s - 1) : Nat) : Int) = v at *
          generalize 2 ^ (L - s - 1) = D at *
          rw [Nat.pow_succ] at hlt3
          generalize 2 ^ s = H at *
          have hdiv : ((q : Nat) : Int).tdiv (2 * (H : Int)) = (D : Int) := by
            rw [hsplit, Int.tdiv_eq_ediv_of_nonneg (Int.natCast_nonneg _), Int.natCast_mul, Int.natCast_mul]
            exact Int.mul_ediv_cancel_left _ (by omega)
          have hqm : q % (2 * H) = 0 := by rw [hsplit]; exact Nat.mul_mod_right _ _
          have hDq : D ≤ q := by rw [hsplit]; exact Nat.le_mul_of_pos_left _ (by omega)
          have HSP := Lib.hid hsplit
          have HST := Lib.hid hstep
          have HNX := Lib.hid hnext
          have HQM := Lib.hid hqm
          have HV := Lib.hid hv
          clear hsplit hl1 hsp hlt2 hend hv hstep hnext hqm
          have hn2 : ¬ (2 * (H : Int)) = 0 := by omega
          go_wp2_with fail
          refine (P _).mono ?_
          rintro e w5 ⟨rfl, hk5⟩
          replace hown := rowKept hown hk5
          replace hk := kept_trans hk hk5
          clear hk5 P hdiv
          rw [← upTo_zero k H v F q] at hown
          go_wp2_with fail
          go_loopw [15] (fun av wy => ∃ a : Nat, a ≤ q ∧ a % (2 * H) = 0 ∧ av = .int .i64 a ∧ wy.ownsRow w.heap.size 108 1 (.slice (some ⟨g, 0, none⟩) q q) q ((mk q (upTo k H v F a)).map (Value.int .u64)) ∧ Kept w wy) (fun av _ => q - (intOf av).toNat)
          case atStart => exact ⟨0, Nat.zero_le _, by simp, rfl, hown, hk⟩
          case round =>
            clear hown hk
            obtain ⟨a, ha, hm, rfl, hown, hk⟩ := hrel
            by_cases hlt : a < q
            · have hle : a + 2 * H ≤ q := by
                have hqm := HQM.out
                obtain ⟨c, rfl⟩ := Nat.dvd_of_mod_eq_zero hm
                obtain ⟨d, rfl⟩ := Nat.dvd_of_mod_eq_zero hqm
                have : c < d := Nat.lt_of_mul_lt_mul_left hlt
                have := Nat.mul_le_mul_left (2 * H) (show c + 1 ≤ d by omega)
                rw [Nat.mul_add, Nat.mul_one] at this
                exact this
              have hm2 : (a + 2 * H) % (2 * H) = 0 := by rw [Nat.add_mod_right]; exact hm
              have hUS := upTo_step (k := k) (w := v) F hpos hm q
              have HUS := Lib.hid hUS
              have HM2 := Lib.hid hm2
              clear hUS hm2 hm
              go_wp2_with fail
              refine wp_region_tail 16 (by kernel_rfl) (by kernel_rfl) ?_
              simp only [List.take_succ_cons, List.take_zero, List.drop_succ_cons, List.drop_zero]
              repeat (first | go_big_quiet_skip | (go_big_quiet_want; go_big_quiet_op; first | go_big_quiet_on | fail))
              refine wpQuiet_nil ?_
              rintro w6 ⟨⟨_, hk6⟩, rfl⟩
              have FL := fly_c k v hv0 g q q a (a + H) H H (upTo k H v F a) (upTo_nonneg hF a) H (Lib.hid rfl) (by omega) (by omega) w.heap.size w6 (rowKept hown hk6) (kept_trans hk hk6).size
              have hk' := kept_trans hk hk6
              go_wp2_with fail
              refine FL.mono ?_
              rintro e w7 ⟨rfl, hown7, hk7⟩
              clear FL
              rw [HUS.out] at hown7
              have K7 := hk7 w hk' (Nat.le_refl _)
              clear hown hk hk6 hk' hk7
              go_wp2_with fail
              exact ⟨⟨a + 2 * H, by omega, HM2.out, by go_num, hown7, K7⟩, by simp [intOf]; omega⟩
            · obtain rfl : a = q := by omega
              rw [upTo_all] at hown
              go_wp2_with fail
              exact ⟨⟨s + 1, by omega, by rw [HNX.out], ⟨_, HST.out, fun j => by unfold stage; split <;> exact of_nonneg _ _, hown⟩, hk⟩, by simp [intOf]; omega⟩
        · obtain rfl : s = L := by omega
          have e : mk q F = mk q (dft k q (nth xs) w0) := mk_congr fun j hj => hend F hS j hj
          rw [e] at hown
          rw [HN.out]
          clear e hS hend hsp hlt2 hl1 hl2
          have hq0 : ¬ (q : Int) < q := by omega
          go_wp2_with fail
          have hO : Own .u64 108 w.heap.size wr (.slice (some ⟨g, 0, none⟩) q q) (mk q (dft k q (nth xs) w0)) := by
            unfold Own
            rw [mk_length]
            exact hown
          exact bodyPost_ret (v := .slice (some ⟨g, 0, none⟩) q q) (by simp [results, Tryz.results158, go_sem]) rfl ⟨_, rfl, hO, hk⟩
end Go.Proofs.YtdejablhpljdfaaGreat
namespace Go.Proofs.YtdejablhpljdfaaGreat
open Go.RowKit BG
attribute [local go_sem ↓] Go.wp_at_zero Go.wp_at_succ
set_option linter.unusedVariables false
theorem info_bool : (Tryz.prog.info? 4).map (fun i => (i.zero, i.size, i.bytes)) = some (some (.bool false), 1, 1) := by kernel_rfl
theorem rowLess {w : World} {base base' n : Nat} {e : TypeId} {v : Value} {xs : List Value} (h : w.ownsRow base e 1 v n xs) (hb : base' ≤ base) : w.ownsRow base' e 1 v n xs := by
  obtain ⟨h1, h2⟩ := h
  refine ⟨h1, ?_⟩
  rcases h2 with h2 | ⟨g, cap, cur, e1, e2, e3⟩
  · exact .inl h2
  · exact .inr ⟨g, cap, cur, e1, Nat.le_trans hb e2, e3⟩
theorem count_succ (hv : Nat → Bool) (n : Nat) : (List.range (n + 1)).countP hv = (List.range n).countP hv + if hv n then 1 else 0 := by rw [List.range_succ, List.countP_append, List.countP_singleton]
end Go.Proofs.YtdejablhpljdfaaGreat
set_option linter.unusedVariables false
namespace BG
def dg0 (a : Int) : Int := of 0 a
def dg1 (a b : Int) : Int := mulm 1 (subm 1 b (dg0 a)) (invm 1 998244353)
def dg2 (a b c : Int) : Int := mulm 2 (subm 2 (subm 2 c (dg0 a)) (mulm 2 (dg1 a b) 998244353)) (invm 2 (mulm 2 998244353 167772161))
theorem dg0_bd (a : Int) : 0 ≤ dg0 a ∧ dg0 a < 998244353 := ⟨of_nonneg _ _, by have := of_lt (k := 0) (by rw [pr0]; decide) a; rw [pr0] at this; exact this⟩
theorem dg1_bd (a b : Int) : 0 ≤ dg1 a b ∧ dg1 a b < 167772161 := ⟨(mulm_bd _ _ _).1, by have := of_lt (k := 1) (by rw [pr1]; decide) (subm 1 b (dg0 a) * invm 1 998244353); rw [pr1] at this; exact this⟩
theorem dg2_bd (a b c : Int) : 0 ≤ dg2 a b c ∧ dg2 a b c < 469762049 := ⟨(mulm_bd _ _ _).1, by have := of_lt (k := 2) (by rw [pr2]; decide) (subm 2 (subm 2 c (dg0 a)) (mulm 2 (dg1 a b) 998244353) * invm 2 (mulm 2 998244353 167772161)); rw [pr2] at this; exact this⟩
def high (a b c : Int) : Int := dg1 a b + dg2 a b c * 167772161
def num (a b c : Int) : Int := dg0 a + high a b c * 998244353
def fits (a b c : Int) : Bool := decide (num a b c ≤ 18446744073709551615)
theorem fits_yes {a b c : Int} (h : fits a b c = true) : dg0 a + (dg1 a b + dg2 a b c * 167772161) * 998244353 ≤ 18446744073709551615 := of_decide_eq_true h
theorem fits_no {a b c : Int} (h : fits a b c = false) : ¬ dg0 a + (dg1 a b + dg2 a b c * 167772161) * 998244353 ≤ 18446744073709551615 := of_decide_eq_false h
theorem ne0 : of 1 998244353 ≠ 0 := by simp [of, pr]
theorem ne1 : of 2 (mulm 2 998244353 167772161) ≠ 0 := by simp [mulm, of, pr]
theorem dg0_of {n a : Int} (h0 : Cong 0 a n) : dg0 a = n % 998244353 := by
  unfold dg0
  rw [h0, of_eq (by rw [pr0]; decide), pr0]
theorem dg1_of {n a b : Int} (h0 : Cong 0 a n) (h1 : Cong 1 b n) : dg1 a b = n / 998244353 % 167772161 := by
  have hp : pr 1 ≠ 0 := by rw [pr1]; decide
  have e : Cong 1 (dg1 a b) (n / 998244353) := by
    have e1 : Cong 1 (dg1 a b) ((n - n % 998244353) * invm 1 998244353) := by
      refine (cong_of 1 _).trans (Cong.mul ?_ (Cong.refl _ _))
      rw [dg0_of h0]
      exact (cong_of 1 _).trans (h1.sub (Cong.refl _ _))
    refine e1.trans ?_
    have e2 : n - n % 998244353 = n / 998244353 * 998244353 := by omega
    rw [e2, Int.mul_assoc]
    have h : Cong 1 (998244353 * invm 1 998244353) 1 := by unfold Cong; rw [mul_invm ne0, of_one hp]
    have := (Cong.refl 1 (n / 998244353)).mul h
    rwa [Int.mul_one] at this
  have hb := dg1_bd a b
  have : of 1 (dg1 a b) = dg1 a b := of_small hb.1 (by rw [pr1]; exact hb.2)
  rw [← this, e, of_eq hp, pr1]
theorem dg2_of {n a b c : Int} (hn : 0 ≤ n) (hn2 : n ≤ 18446744073709551615) (h0 : Cong 0 a n) (h1 : Cong 1 b n) (h2 : Cong 2 c n) : dg2 a b c = n / 998244353 / 167772161 := by
  have hp : pr 2 ≠ 0 := by rw [pr2]; decide
  have e : Cong 2 (dg2 a b c) (n / 998244353 / 167772161) := by
    have e1 : Cong 2 (dg2 a b c) ((n - n % 998244353 - n / 998244353 % 167772161 * 998244353) * invm 2 (mulm 2 998244353 167772161)) := by
      refine (cong_of 2 _).trans (Cong.mul ?_ (Cong.refl _ _))
      rw [dg0_of h0, dg1_of h0 h1]
      exact (cong_of 2 _).trans (((cong_of 2 _).trans (h2.sub (Cong.refl _ _))).sub (cong_of 2 _))
    refine e1.trans ?_
    have e2 : n - n % 998244353 - n / 998244353 % 167772161 * 998244353 = n / 998244353 / 167772161 * (998244353 * 167772161) := by omega
    rw [e2]
    have hm : Cong 2 (998244353 * 167772161) (mulm 2 998244353 167772161) := (cong_of 2 _).symm
    refine (((Cong.refl 2 _).mul hm).mul (Cong.refl 2 _)).trans ?_
    rw [Int.mul_assoc]
    have h : Cong 2 (mulm 2 998244353 167772161 * invm 2 (mulm 2 998244353 167772161)) 1 := by unfold Cong; rw [mul_invm ne1, of_one hp]
    have := (Cong.refl 2 (n / 998244353 / 167772161)).mul h
    rwa [Int.mul_one] at this
  have hb := dg2_bd a b c
  have : of 2 (dg2 a b c) = dg2 a b c := of_small hb.1 (by rw [pr2]; exact hb.2)
  rw [← this, e, of_small (by omega) (by rw [pr2]; omega)]
theorem num_of {n a b c : Int} (hn : 0 ≤ n) (hn2 : n ≤ 18446744073709551615) (h0 : Cong 0 a n) (h1 : Cong 1 b n) (h2 : Cong 2 c n) : num a b c = n := by
  unfold num high
  rw [dg0_of h0, dg1_of h0 h1, dg2_of hn hn2 h0 h1 h2]
  omega
theorem fits_of {n a b c : Int} (hn : 0 ≤ n) (hn2 : n ≤ 18446744073709551615) (h0 : Cong 0 a n) (h1 : Cong 1 b n) (h2 : Cong 2 c n) : fits a b c = true := by
  unfold fits
  rw [num_of hn hn2 h0 h1 h2]
  simpa using hn2
def joinv (a b c : Int) : Int := if fits a b c then num a b c else 0
end BG
namespace Go.Proofs.YtdejablhpljdfaaGreat
open Go.RowKit BG
attribute [local go_sem ↓] Go.wp_at_zero Go.wp_at_succ
set_option linter.unusedVariables false
abbrev arr3 (a b c : Int) : Value := .agg #[.int .u64 a, .int .u64 b, .int .u64 c]
theorem mixed_c (a b c : Int) (ha : 0 ≤ a) (hb : 0 ≤ b) (hc : 0 ≤ c) (w : World) : Calls Tryz.prog 208 #[arr3 a b c] w (Ret (arr3 (dg0 a) (dg1 a b) (dg2 a b c)) w) := by
  have p0 : pr 0 = 998244353 := pr0
  have p1 : pr 1 = 167772161 := pr1
  have i1 := invm_bd 1 998244353
  have i2 := invm_bd 2 (mulm 2 998244353 167772161)
  have d0 := of_bd 0 a
  have s1 := subm_bd 1 b (of 0 a)
  have m1 := mulm_bd 1 (subm 1 b (of 0 a)) (invm 1 998244353)
  have m2 := mulm_bd 2 998244353 167772161
  have s2 := subm_bd 2 c (of 0 a)
  have m3 := mulm_bd 2 (mulm 1 (subm 1 b (of 0 a)) (invm 1 998244353)) 998244353
  have s3 := subm_bd 2 (subm 2 c (of 0 a)) (mulm 2 (mulm 1 (subm 1 b (of 0 a)) (invm 1 998244353)) 998244353)
  have hz := blk_alloc (blk_new w (.cells #[.int .u64 a, .int .u64 b, .int .u64 c] 219)) (.cells #[.int .u64 0, .int .u64 0, .int .u64 0] 219)
  have hr := blk_new (w.alloc (.cells #[.int .u64 a, .int .u64 b, .int .u64 c] 219)) (.cells #[.int .u64 0, .int .u64 0, .int .u64 0] 219)
  rw [World.size_alloc] at hr
  have c0 : _ = some (Value.int .u64 a) := blk_cell hz 0
  have c1 : _ = some (Value.int .u64 b) := blk_cell hz 1
  have c2 : _ = some (Value.int .u64 c) := blk_cell hz 2
  have hlt : w.heap.size + 1 < ((w.alloc (.cells #[.int .u64 a, .int .u64 b, .int .u64 c] 219)).alloc (.cells #[.int .u64 0, .int .u64 0, .int .u64 0] 219)).heap.size := by simp
  clear hz
  unfold arr3
  go_enter Tryz.func208, Tryz.ntmps208
  go_wp2_with fail
  refine (prime_c 0 _).mono ?_
  rintro e w1 ⟨rfl, hk1⟩
  replace c0 := kept_cell hk1 c0
  replace c1 := kept_cell hk1 c1
  replace c2 := kept_cell hk1 c2
  replace hr := blk_kept hk1 hr
  go_wp2_with fail
  refine (prime_c 1 _).mono ?_
  rintro e w2 ⟨rfl, hk2⟩
  replace c0 := kept_cell hk2 c0
  replace c1 := kept_cell hk2 c1
  replace c2 := kept_cell hk2 c2
  replace hr := blk_kept hk2 hr
  go_wp2_with fail
  refine (of_c 0 a ha _).mono ?_
  rintro e w3 ⟨rfl, hk3⟩
  replace c0 := kept_cell hk3 c0
  replace c1 := kept_cell hk3 c1
  replace c2 := kept_cell hk3 c2
  replace hr := blk_kept hk3 hr
  go_wp2_with fail
  refine (inv_c 1 998244353 (by decide) _).mono ?_
  rintro e w4 ⟨rfl, hk4⟩
  replace c0 := kept_cell hk4 c0
  replace c1 := kept_cell hk4 c1
  replace c2 := kept_cell hk4 c2
  replace hr := blk_kept hk4 hr
  go_wp2_with fail
  refine (sub_c 1 b _ hb d0.1 _).mono ?_
  rintro e w5 ⟨rfl, hk5⟩
  replace c0 := kept_cell hk5 c0
  replace c1 := kept_cell hk5 c1
  replace c2 := kept_cell hk5 c2
  replace hr := blk_kept hk5 hr
  go_wp2_with fail
  refine (mul_c 1 _ _ s1.1 i1.1 _).mono ?_
  rintro e w6 ⟨rfl, hk6⟩
  replace c0 := kept_cell hk6 c0
  replace c1 := kept_cell hk6 c1
  replace c2 := kept_cell hk6 c2
  replace hr := blk_kept hk6 hr
  go_wp2_with fail
  refine (mul_c 2 998244353 167772161 (by decide) (by decide) _).mono ?_
  rintro e w7 ⟨rfl, hk7⟩
  replace c0 := kept_cell hk7 c0
  replace c1 := kept_cell hk7 c1
  replace c2 := kept_cell hk7 c2
  replace hr := blk_kept hk7 hr
  go_wp2_with fail
  refine (inv_c 2 _ m2.1 _).mono ?_
  rintro e w8 ⟨rfl, hk8⟩
  replace c0 := kept_cell hk8 c0
  replace c1 := kept_cell hk8 c1
  replace c2 := kept_cell hk8 c2
  replace hr := blk_kept hk8 hr
  go_wp2_with fail
  refine (sub_c 2 c _ hc d0.1 _).mono ?_
  rintro e w9 ⟨rfl, hk9⟩
  replace c0 := kept_cell hk9 c0
  replace c1 := kept_cell hk9 c1
  replace c2 := kept_cell hk9 c2
  replace hr := blk_kept hk9 hr
  go_wp2_with fail
  refine (mul_c 2 _ 998244353 m1.1 (by decide) _).mono ?_
  rintro e w10 ⟨rfl, hk10⟩
  replace c0 := kept_cell hk10 c0
  replace c1 := kept_cell hk10 c1
  replace c2 := kept_cell hk10 c2
  replace hr := blk_kept hk10 hr
  go_wp2_with fail
  refine (sub_c 2 _ _ s2.1 m3.1 _).mono ?_
  rintro e w11 ⟨rfl, hk11⟩
  replace c0 := kept_cell hk11 c0
  replace c1 := kept_cell hk11 c1
  replace c2 := kept_cell hk11 c2
  replace hr := blk_kept hk11 hr
  go_wp2_with fail
  refine (mul_c 2 _ _ s3.1 i2.1 _).mono ?_
  rintro e w12 ⟨rfl, hk12⟩
  replace c0 := kept_cell hk12 c0
  replace c1 := kept_cell hk12 c1
  replace c2 := kept_cell hk12 c2
  replace hr := blk_kept hk12 hr
  have r0 : w12.cell? ⟨w.heap.size + 1, 0, none⟩ = some (.int .u64 0) := blk_cell hr 0
  have rf0 := blk_frozen hr 0
  have r1 : w12.cell? ⟨w.heap.size + 1, 1, none⟩ = some (.int .u64 0) := blk_cell hr 1
  have rf1 := blk_frozen hr 1
  have r2 : w12.cell? ⟨w.heap.size + 1, 2, none⟩ = some (.int .u64 0) := blk_cell hr 2
  have rf2 := blk_frozen hr 2
  have HK := kept_trans (kept_alloc (kept_alloc (kept_refl w) _) _) (kept_trans hk1 (kept_trans hk2 (kept_trans hk3 (kept_trans hk4 (kept_trans hk5 (kept_trans hk6 (kept_trans hk7 (kept_trans hk8 (kept_trans hk9 (kept_trans hk10 (kept_trans hk11 hk12)))))))))))
  go_wp2_with fail
  exact bodyPost_ret (v := arr3 (dg0 a) (dg1 a b) (dg2 a b c)) (by simp [results, Tryz.results208, go_sem, r0, r1, r2, arr3]; exact ⟨rfl, rfl, rfl⟩) rfl ⟨rfl, by go_grown⟩
theorem join_c (a b c : Int) (ha : 0 ≤ a) (hb : 0 ≤ b) (hc : 0 ≤ c) (w : World) : Calls Tryz.prog 162 #[arr3 a b c] w (Ret (.tuple #[.int .u64 (joinv a b c), .bool (fits a b c)]) w) := by
  have p0 : pr 0 = 998244353 := pr0
  have p1 : pr 1 = 167772161 := pr1
  have d0 := dg0_bd a
  have d1 := dg1_bd a b
  have d2 := dg2_bd a b c
  cases hf : fits a b c
  · have h1 : joinv a b c = 0 := by simp [joinv, hf]
    have h2 : (18446744073709551615 - dg0 a) / 998244353 < dg1 a b + dg2 a b c * 167772161 := by
      have := fits_no hf
      omega
    rw [h1]
    clear h1 hf
    unfold arr3
    go_enter Tryz.func162, Tryz.ntmps162
    go_wp2_with fail
    refine (mixed_c a b c ha hb hc _).mono ?_
    rintro e w1 ⟨rfl, hk1⟩
    unfold arr3
    have hd := blk_new w1 (.cells #[.int .u64 (dg0 a), .int .u64 (dg1 a b), .int .u64 (dg2 a b c)] 219)
    go_wp2_with fail
    refine (prime_c 0 _).mono ?_
    rintro e w2 ⟨rfl, hk2⟩
    replace hd := blk_kept hk2 hd
    go_wp2_with fail
    refine (prime_c 1 _).mono ?_
    rintro e w3 ⟨rfl, hk3⟩
    replace hd := blk_kept hk3 hd
    have c0 : w3.cell? ⟨w1.heap.size, 0, none⟩ = some (.int .u64 (dg0 a)) := blk_cell hd 0
    have c1 : w3.cell? ⟨w1.heap.size, 1, none⟩ = some (.int .u64 (dg1 a b)) := blk_cell hd 1
    have c2 : w3.cell? ⟨w1.heap.size, 2, none⟩ = some (.int .u64 (dg2 a b c)) := blk_cell hd 2
    go_wp2_with fail
    go_ret2
    exact ⟨rfl, kept_trans (kept_alloc (kept_trans (kept_alloc (kept_refl w) _) hk1) _) (kept_trans hk2 hk3)⟩
  · have h1 : joinv a b c = dg0 a + (dg1 a b + dg2 a b c * 167772161) * 998244353 := by simp [joinv, hf, num, high]
    have h2 : dg1 a b + dg2 a b c * 167772161 ≤ (18446744073709551615 - dg0 a) / 998244353 := by
      have := fits_yes hf
      omega
    have h3 : dg0 a + (dg1 a b + dg2 a b c * 167772161) * 998244353 ≤ 18446744073709551615 := fits_yes hf
    rw [h1]
    clear h1 hf
    unfold arr3
    go_enter Tryz.func162, Tryz.ntmps162
    go_wp2_with fail
    refine (mixed_c a b c ha hb hc _).mono ?_
    rintro e w1 ⟨rfl, hk1⟩
    unfold arr3
    have hd := blk_new w1 (.cells #[.int .u64 (dg0 a), .int .u64 (dg1 a b), .int .u64 (dg2 a b c)] 219)
    go_wp2_with fail
    refine (prime_c 0 _).mono ?_
    rintro e w2 ⟨rfl, hk2⟩
    replace hd := blk_kept hk2 hd
    go_wp2_with fail
    refine (prime_c 1 _).mono ?_
    rintro e w3 ⟨rfl, hk3⟩
    replace hd := blk_kept hk3 hd
    have c0 : w3.cell? ⟨w1.heap.size, 0, none⟩ = some (.int .u64 (dg0 a)) := blk_cell hd 0
    have c1 : w3.cell? ⟨w1.heap.size, 1, none⟩ = some (.int .u64 (dg1 a b)) := blk_cell hd 1
    have c2 : w3.cell? ⟨w1.heap.size, 2, none⟩ = some (.int .u64 (dg2 a b c)) := blk_cell hd 2
    go_wp2_with fail
    go_ret2
    exact ⟨rfl, kept_trans (kept_alloc (kept_trans (kept_alloc (kept_refl w) _) hk1) _) (kept_trans hk2 hk3)⟩
end Go.Proofs.YtdejablhpljdfaaGreat
namespace Go.Proofs.YtdejablhpljdfaaGreat
open Go.RowKit BG
attribute [local go_sem ↓] Go.wp_at_zero Go.wp_at_succ
set_option linter.unusedVariables false
def U64 (xs : List Int) : Prop := ∀ j, 0 ≤ nth xs j ∧ nth xs j ≤ 18446744073709551615
def rowsOk (xs ys zs : List Int) : Bool := decide (ys.length = xs.length ∧ zs.length = xs.length ∧ ∀ j, j < xs.length → fits (nth xs j) (nth ys j) (nth zs j) = true)
def rowsv (xs ys zs : List Int) : List Int := if rowsOk xs ys zs then mk xs.length (fun j => num (nth xs j) (nth ys j) (nth zs j)) else []
theorem info_u64 : (Tryz.prog.info? 108).map (fun i => (i.zero, i.size, i.bytes)) = some (some (.int .u64 0), 1, 8) := by kernel_rfl
theorem rows_c (A B C : Option Addr) (ca cb cc : Nat) (xs ys zs : List Int) (w : World) (hx : Rd .u64 w A xs) (hy : Rd .u64 w B ys) (hz : Rd .u64 w C zs) (ux : U64 xs) (uy : U64 ys) (uz : U64 zs) (hreach : xs.length * 8 ≤ 140737488351232) :
    Calls Tryz.prog 105 #[.slice A xs.length ca, .slice B ys.length cb, .slice C zs.length cc] w fun e w' => ∃ v, e = .returned (.tuple #[v, .bool (rowsOk xs ys zs)]) ∧ Own .u64 108 w.heap.size w' v (rowsv xs ys zs) ∧ Kept w w' := by
  have hm := hx.1
  obtain ⟨i0, hi, hz0, hz1, hz2⟩ := info_parts info_u64
  by_cases h1 : ys.length = xs.length
  · by_cases h2 : zs.length = xs.length
    · have b1 : ((ys.length : Int) != (xs.length : Int)) = false := by simp [h1]
      have b2 : ((zs.length : Int) != (xs.length : Int)) = false := by simp [h2]
      have H1 := Lib.hid h1
      have H2 := Lib.hid h2
      clear h1 h2
      go_enter Tryz.func105, Tryz.ntmps105
      go_wp2_with fail
      go_loopw [8, 26] (fun v i wr => ∃ j : Nat, j ≤ xs.length ∧ i = .int .i64 j ∧ Own .u64 108 w.heap.size wr v (mk j fun q => num (nth xs q) (nth ys q) (nth zs q)) ∧ Kept w wr ∧ Hid (∀ q, q < j → fits (nth xs q) (nth ys q) (nth zs q) = true)) (fun _ i _ => xs.length - (intOf i).toNat)
      case atStart => exact ⟨0, Nat.zero_le _, rfl, Own.nil _ _ _ _, kept_refl _, fun q hq => absurd hq (Nat.not_lt_zero q)⟩
      case round =>
        obtain ⟨j, hj, rfl, hown, hk, HQ⟩ := hrel
        by_cases hlt : j < xs.length
        · have hlt1 : j < ys.length := by have := H1.out; omega
          have hlt2 : j < zs.length := by have := H2.out; omega
          obtain ⟨ad, rfl, hc1⟩ := (hx.kept hk).at_ hlt
          obtain ⟨bd, rfl, hc2⟩ := (hy.kept hk).at_ hlt1
          obtain ⟨cd, rfl, hc3⟩ := (hz.kept hk).at_ hlt2
          have u1 := (ux j).1
          have u2 := (uy j).1
          have u3 := (uz j).1
          go_wp2_with fail
          have k1 : ∀ s : KW wr, s.val.cell? (ad.add j) = some (.int .u64 (nth xs j)) := fun s => kw_cell s hc1
          have k2 : ∀ s : KW wr, s.val.cell? (bd.add j) = some (.int .u64 (nth ys j)) := fun s => kw_cell s hc2
          have k3 : ∀ s : KW wr, s.val.cell? (cd.add j) = some (.int .u64 (nth zs j)) := fun s => kw_cell s hc3
          refine wp_region_kept (by kernel_rfl) (by kernel_rfl) ?_
          repeat (first | go_big_quiet_skip | (go_big_quiet_want; go_big_quiet_op; first | go_big_quiet_on | (apply Exists.intro; refine ⟨fun s => ?_, ?_⟩; (first | (go_at_call 162; exact call_kept (join_c _ _ _ (by assumption) (by assumption) (by assumption) _))); go_big_quiet_on)))
          refine wpQuiet_nil ?_
          rintro wq ⟨⟨_, hkq⟩, rfl⟩
          have hown2 : World.ownsRow _ _ _ _ _ _ _ := hown.kept hkq
          have hbase : w.heap.size ≤ wq.heap.size := Nat.le_trans hk.size hkq.size
          rw [mk_length] at hown2
          clear hc1 hc2 hc3 k1 k2 k3 u1 u2 u3 hown
          cases hf : fits (nth xs j) (nth ys j) (nth zs j)
          · go_wp2_with fail
            go_ret2
            have hno : rowsOk xs ys zs = false := by
              simp only [rowsOk, decide_eq_false_iff_not]
              rintro ⟨_, _, h⟩
              rw [h j hlt] at hf
              cases hf
            exact ⟨_, by rw [hno]; rfl, by unfold rowsv; rw [hno]; exact Own.nil _ _ _ _, kept_trans hk hkq⟩
          · have hjv : joinv (nth xs j) (nth ys j) (nth zs j) = num (nth xs j) (nth ys j) (nth zs j) := by simp [joinv, hf]
            go_wp2_with (at_builtin; refine wpList_append_own _ rfl _ _ 123 rfl w.heap.size 108 i0 (.int .u64 0) 1 8 Tryz.underlying123 hi hz0 hz1 hz2 rfl (by decide) _ _ _ rfl (hown2.alloc _) ⟨wq.heap.size, 0, none⟩ 1 1 [.int .u64 (num (nth xs j) (nth ys j) (nth zs j))] rfl rfl ?c1 ?c2 ?c3 ?c4 ?c5 ?_)
            case c1 =>
              intro q u hq
              match q, hq with
              | 0, hq => simp at hq; subst hq; simp [Addr.add]
            case c2 => intro u hu; simp at hu; subst hu; rfl
            case c3 => unfold maxLen; omega
            case c4 => omega
            case c5 => simp; omega
            · intro v' w1 hown' hgrow _
              have R := Own.appended (f := fun q => num (nth xs q) (nth ys q) (nth zs q)) hown'
              have K := kept_grown (kept_alloc (kept_trans hk hkq) _) (hown2.alloc _) (Nat.le_refl _) hgrow
              clear hown' hgrow hown2
              go_wp2_with fail
              go_roundw
              case rel => exact ⟨j + 1, by omega, by go_num, R, K, fun q hq => by
                rcases Nat.lt_or_ge q j with h | h
                · exact HQ q h
                · obtain rfl : q = j := by omega
                  exact hf⟩
              case measure => simp [intOf]; omega
        · obtain rfl : j = xs.length := by omega
          have hyes : rowsOk xs ys zs = true := by
            simp only [rowsOk, decide_eq_true_eq]
            exact ⟨H1.out, H2.out, HQ⟩
          have HY := Lib.hid hyes
          clear hyes
          go_wp2_with fail
          go_ret2
          exact ⟨_, by rw [HY.out]; rfl, by unfold rowsv; rw [HY.out, if_pos rfl]; exact hown, hk⟩
    · have b1 : ((ys.length : Int) != (xs.length : Int)) = false := by simp [h1]
      have b2 : ((zs.length : Int) != (xs.length : Int)) = true := by rw [bne_iff_ne]; omega
      have hno : rowsOk xs ys zs = false := by
        simp only [rowsOk, decide_eq_false_iff_not]
        exact fun h => h2 h.2.1
      have HN := Lib.hid hno
      clear h1 h2 hno
      go_enter Tryz.func105, Tryz.ntmps105
      go_wp2_with fail
      go_ret2
      exact ⟨_, by rw [HN.out]; rfl, by unfold rowsv; rw [HN.out]; exact Own.nil _ _ _ _, kept_refl _⟩
  · have b1 : ((ys.length : Int) != (xs.length : Int)) = true := by rw [bne_iff_ne]; omega
    have hno : rowsOk xs ys zs = false := by
      simp only [rowsOk, decide_eq_false_iff_not]
      exact fun h => h1 h.1
    have HN := Lib.hid hno
    clear h1 hno
    go_enter Tryz.func105, Tryz.ntmps105
    go_wp2_with fail
    go_ret2
    exact ⟨_, by rw [HN.out]; rfl, by unfold rowsv; rw [HN.out]; exact Own.nil _ _ _ _, kept_refl _⟩
theorem rows_at (b : Bool) (l : List Int) (A B C : Option Addr) (ca cb cc : Nat) (xs ys zs : List Int) (w : World) (hx : Rd .u64 w A xs) (hy : Rd .u64 w B ys) (hz : Rd .u64 w C zs) (ux : U64 xs) (uy : U64 ys) (uz : U64 zs) (hreach : xs.length * 8 ≤ 140737488351232) (hb : rowsOk xs ys zs = b) (hl : rowsv xs ys zs = l) :
    Calls Tryz.prog 105 #[.slice A xs.length ca, .slice B ys.length cb, .slice C zs.length cc] w fun e w' => ∃ v, e = .returned (.tuple #[v, .bool b]) ∧ Own .u64 108 w.heap.size w' v l ∧ Kept w w' := by
  subst hb; subst hl; exact rows_c A B C ca cb cc xs ys zs w hx hy hz ux uy uz hreach
end Go.Proofs.YtdejablhpljdfaaGreat
