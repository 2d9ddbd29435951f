/-
  Texts of one claim, joined: WBlk4, BlkP, Bridge, WBlk5.
-/
import Derived.Laws.CopyOwn
import Derived.RangeFuncNested
import Derived.RangeFuncBound
import Derived.RangeFuncCalls
import Derived.RangeFuncLeaves
import Derived.RangeFuncFrom
import Derived.OwnWalkIn
import Derived.OrdersIn
import Derived.TacticsInMore
import Derived.LoopNIn
import Derived.LoopIn
import Derived.Shelf.Abstract
import Derived.Shelf.RegionOpen
import Derived.WalkKit
import Derived.Test.YtdejablhpljdfaaGreatQ08
import Derived.Test.YtdejablhpljdfaaGreatQ02
namespace Go.Proofs.YtdejablhpljdfaaGreat
open Go.RowKit BG
attribute [local go_sem ↓] Go.wp_at_zero Go.wp_at_succ
set_option linter.unusedVariables false
theorem own_full {w : World} {base g N : Nat} {e : TypeId} {xs : List Value} (h : w.ownsRow base e 1 (.slice (some ⟨g, 0, none⟩) N N) N xs) : w.heap[g]? = some (.cells xs.toArray e (0, 0)) ∧ base ≤ g ∧ N ≤ maxLen ∧ xs.length = N := by
  have hl := h.1
  rcases h.2 with ⟨h0, _⟩ | ⟨g', cap, cur, he, hb, hg, h1, h2, h3, h4⟩
  · cases h0
  · cases he
    rw [List.take_of_length_le (by simp; omega)] at h4
    refine ⟨?_, hb, h2, by omega⟩
    rw [hg, ← h4]
theorem full_own {w : World} {base g N : Nat} {e : TypeId} {xs : List Value} (hg : w.heap[g]? = some (.cells xs.toArray e (0, 0))) (hb : base ≤ g) (hm : N ≤ maxLen) (hl : xs.length = N) : w.ownsRow base e 1 (.slice (some ⟨g, 0, none⟩) N N) N xs :=
  ⟨by omega, .inr ⟨g, N, xs.toArray, rfl, hb, hg, Nat.le_refl _, hm, by simp [hl], by simp [List.take_of_length_le, hl]⟩⟩
theorem splice_wide (xs : List Int) {size : Nat} (h : xs.length ≤ size) : splice (List.replicate size (Value.int .u64 0)) 0 (xs.map (Value.int .u64)) = (widev xs size).map (Value.int .u64) := by
  rw [← wide_is xs h]
  unfold splice
  rw [List.take_zero, List.nil_append, List.drop_replicate, List.length_map, Nat.zero_add]
set_option maxHeartbeats 4000000 in
theorem wide_c (A : Option Addr) (ca S : Nat) (xs : List Int) (hl : xs.length ≤ S) (hS : S ≤ 4096) (w : World) (hr : Rd .u64 w A xs) :
    Calls Tryz.prog 102 #[.slice A xs.length ca, .int .i64 (S : Nat)] w fun e w' => ∃ v, e = .returned v ∧ Own .u64 108 w.heap.size w' v (widev xs S) ∧ Kept w w' := by
  obtain ⟨i1, hif1, hy0, hy1, hy2⟩ := info_parts info_u64
  have hwl := widev_length xs S
  have hsp := splice_wide xs hl
  have hif : (Tryz.prog.info? 108).map (·.size) = some 1 := by rw [hif1]; simp [hy1]
  go_enter Tryz.func102, Tryz.ntmps102
  go_wp2_with (refine wpList_make_full _ rfl (.tmp 6) (.tmp 6) 123 rfl w.heap.size 108 i1 (.int .u64 0) 1 Tryz.underlying123 hif1 hy0 hy1 .i64 .i64 _ _ S rfl rfl (by simp) (by simp) ?b2 ?b3 ?b4 ?_)
  case b2 => rw [hy2]; omega
  case b3 => unfold maxLen; omega
  case b4 => exact Nat.le_refl _
  intro w4 hown4 hgrow
  have K4 : Kept w w4 := (kept_refl w).grown hgrow (Nat.le_refl _) (fun k h => by cases h)
  rw [toList_madeCells_one] at hown4
  obtain ⟨hg, _, hm, _⟩ := own_full hown4
  have r4 := hr.kept K4
  clear hown4 hgrow
  generalize hgg : w.heap.size = g at *
  obtain ⟨X1, hX1⟩ : ∃ X1, X1 = xs.map (Value.int .u64) := ⟨_, rfl⟩
  have hX1l : X1.length = xs.length := by rw [hX1, List.length_map]
  have HX := Lib.hid hX1
  rw [← hX1] at hsp
  have HSP := Lib.hid hsp
  have h1 : ∀ v ∈ X1, v.oneCell' = true := by rw [hX1]; exact cells_one _ _
  have hpos : 0 < X1.length → ∃ ad, A = some ad ∧ ∀ j v, X1[j]? = some v → w4.cell? (ad.add j) = some v := by
    intro h
    obtain ⟨ad, rfl, _⟩ := r4.at_ (j := 0) (by omega)
    exact ⟨ad, rfl, by rw [hX1]; exact rd_cells r4⟩
  have HPOS := Lib.hid hpos
  have HG0 := Lib.hid hg
  clear hX1 hsp hpos hg
  go_wp2_with (refine wpList_copy_splice rfl (.tmp 8) (.tmp 9) 123 123 rfl 108 Tryz.underlying123 hif (some ⟨g, 0, none⟩) A S S xs.length ca (by rfl) (by rfl) g 0 (List.replicate S (Value.int .u64 0)) 108 HG0.out X1 ?c1 (fun h => ⟨rfl, HPOS.out h⟩) ?c2 h1 g w ?c3 (Nat.le_refl _) ?_)
  case c1 => rw [hX1l]; exact (Nat.min_eq_left hl).symm
  case c2 => rw [hX1l, List.length_replicate]; omega
  case c3 => rw [← hgg]; exact K4
  intro w5 HG hb5
  have K5 : Kept w w5 := by rw [← hgg] at hb5; exact hb5
  have O5 : Own .u64 108 g w5 (.slice (some ⟨g, 0, none⟩) S S) (widev xs S) := by
    unfold Own
    rw [hwl]
    refine full_own ?_ (Nat.le_refl _) hm (by rw [List.length_map, hwl])
    rw [← HSP.out]
    exact HG.out
  clear HG hb5 HPOS h1 HG0 r4 K4
  go_wp2_with fail
  go_ret
  exact ⟨_, rfl, by rw [hgg]; exact O5, K5⟩
def turnTo (xs : List Int) (S q i : Nat) : Int := if (S - i) % S < q then nth xs ((S - i) % S) else 0
def turnedv (xs : List Int) (S : Nat) : List Int := mk S (turnTo xs S xs.length)
theorem turnTo_zero (xs : List Int) (S n : Nat) : mk n (turnTo xs S 0) = mk n fun _ => 0 := mk_congr fun p _ => by unfold turnTo; rw [if_neg (by omega)]
theorem turn_back {S q : Nat} (hS : 0 < S) (h : q < S) : (S - (S - q) % S) % S = q ∧ (S - q) % S < S := by
  refine ⟨?_, Nat.mod_lt _ hS⟩
  by_cases h0 : q = 0
  · subst h0; rw [Nat.sub_zero, Nat.mod_self, Nat.sub_zero, Nat.mod_self]
  · rw [Nat.mod_eq_of_lt (show S - q < S by omega), show S - (S - q) = q by omega, Nat.mod_eq_of_lt h]
theorem turnTo_set {xs : List Int} {S q : Nat} (hS : 0 < S) (hq : q < S) : (mk S (turnTo xs S q)).set ((S - q) % S) (nth xs q) = mk S (turnTo xs S (q + 1)) := by
  obtain ⟨h1, h2⟩ := turn_back hS hq
  rw [mk_set _ h2]
  refine mk_congr fun p hp => ?_
  unfold turnTo
  by_cases h : p = (S - q) % S
  · rw [if_pos h, h, h1, if_pos (Nat.lt_succ_self _)]
  · rw [if_neg h]
    have hne : (S - p) % S ≠ q := by
      intro e
      apply h
      have := (turn_back hS hp).1
      rw [e] at this
      exact this.symm
    by_cases h3 : (S - p) % S < q
    · rw [if_pos h3, if_pos (by omega)]
    · rw [if_neg h3, if_neg (by omega)]
set_option maxHeartbeats 4000000 in
theorem turned_c (A : Option Addr) (ca S : Nat) (xs : List Int) (hl : xs.length ≤ S) (hS0 : 0 < S) (hS : S ≤ 4096) (w : World) (hr : Rd .u64 w A xs) :
    Calls Tryz.prog 100 #[.slice A xs.length ca, .int .i64 (S : Nat)] w fun e w' => ∃ v, e = .returned v ∧ Own .u64 108 w.heap.size w' v (turnedv xs S) ∧ Kept w w' := by
  obtain ⟨i1, hif1, hy0, hy1, hy2⟩ := info_parts info_u64
  have hz := turnTo_zero xs S S
  have hset := fun q (hq : q < S) => turnTo_set (xs := xs) hS0 hq
  have htv : mk S (turnTo xs S xs.length) = turnedv xs S := rfl
  have htl : ∀ q, (mk S (turnTo xs S q)).length = S := fun q => mk_length _ _
  have htl2 : (turnedv xs S).length = S := mk_length _ _
  have hsz : ((S : Int) == 0) = false := beq_zero _ (by omega)
  generalize hla : xs.length = m at *
  have HLA := Lib.hid hla
  clear hla
  go_enter Tryz.func100, Tryz.ntmps100
  go_wp2_with (refine wpList_make_full _ rfl (.tmp 8) (.tmp 8) 123 rfl w.heap.size 108 i1 (.int .u64 0) 1 Tryz.underlying123 hif1 hy0 hy1 .i64 .i64 _ _ S rfl rfl (by simp) (by simp) ?b2 ?b3 ?b4 ?_)
  case b2 => rw [hy2]; omega
  case b3 => unfold maxLen; omega
  case b4 => exact Nat.le_refl _
  intro w4 hown4 hgrow
  have K4 : Kept w w4 := (kept_refl w).grown hgrow (Nat.le_refl _) (fun k h => by cases h)
  rw [toList_madeCells_one] at hown4
  have hown5 : w4.ownsRow w.heap.size 108 1 (.slice (some ⟨w.heap.size, 0, none⟩) S S) S ((mk S (turnTo xs S 0)).map (Value.int .u64)) := by
    rw [hz, mk_zero']; exact hown4
  clear hown4 hgrow hz
  generalize hg' : w.heap.size = g at *
  go_wp2_with fail
  go_loopw [12] (fun iv wr => ∃ q : Nat, q ≤ m ∧ iv = .int .i64 q ∧ wr.ownsRow g 108 1 (.slice (some ⟨g, 0, none⟩) S S) S ((mk S (turnTo xs S q)).map (Value.int .u64)) ∧ Kept w wr) (fun iv _ => m - (intOf iv).toNat)
  case atStart => exact ⟨0, Nat.zero_le _, rfl, hown5, K4⟩
  case round =>
    clear hown5 K4
    obtain ⟨q, hq, rfl, hown, hk⟩ := hrel
    by_cases hlt : q < m
    · obtain ⟨ad, rfl, c0⟩ := (hr.kept hk).at_ (j := q) (by have := HLA.out; omega)
      have hSq := hset q (by omega)
      have hml := htl q
      have hdl : (S - q) % S < S := Nat.mod_lt _ hS0
      have d0 := World.ownsRow.cellAt hown ((S - q) % S) (by omega)
      rw [List.getElem?_map, List.getElem?_eq_getElem (by omega), Option.map_some] at d0
      have f0 := World.ownsRow.frozenAt hown ((S - q) % S)
      have S0 := World.ownsRow.stored hown ((S - q) % S) (.int .u64 (nth xs q))
      rw [← List.map_set, hSq] at S0
      have HSS := Lib.hid S0
      have hd : (S : Int) - (q : Int) = ((S - q : Nat) : Int) := by omega
      have hr : (((S - q : Nat) : Int)).tmod (S : Int) = (((S - q) % S : Nat) : Int) := by rw [Int.tmod_eq_emod_of_nonneg (by omega), Int.natCast_emod]
      have hsq : S - q ≤ 4096 := by omega
      clear hSq S0
      generalize (mk S (turnTo xs S q))[(S - q) % S]'(by omega) = old at *
      generalize nth xs q = x at *
      generalize (S - q) % S = d at *
      generalize S - q = sq at *
      have ea : (⟨g, 0, none⟩ : Addr).add d = ⟨g, d, none⟩ := by unfold Addr.add; split <;> simp_all
      clear hset htl hml htv
      go_wp2_with fail
      exact ⟨⟨q + 1, by omega, by go_num, HSS.out.1, kept_grown hk hown (by omega) HSS.out.2⟩, by simp [intOf]; omega⟩
    · obtain rfl : m = q := by omega
      rw [htv] at hown
      clear hset htl htv
      have O5 : Own .u64 108 g wr (.slice (some ⟨g, 0, none⟩) S S) (turnedv xs S) := by unfold Own; rw [htl2]; exact hown
      clear hown htl2
      go_wp2_with fail
      go_ret
      exact ⟨_, rfl, by rw [hg']; exact O5, hk⟩
end Go.Proofs.YtdejablhpljdfaaGreat
namespace Go.Proofs.YtdejablhpljdfaaGreat
open Go.RowKit BG
set_option linter.unusedVariables false
theorem sumTo_from {n m t : Nat} {f : Nat → Int} (h : t + m ≤ n) (h0 : ∀ i, i < n → ¬ (t ≤ i ∧ i < t + m) → f i = 0) : sumTo n f = sumTo m fun j => f (t + j) := by
  obtain ⟨d, rfl⟩ : ∃ d, n = t + m + d := ⟨n - (t + m), by omega⟩
  rw [sumTo_append, sumTo_append, sumTo_zero (n := t) fun i hi => h0 i (by omega) (by omega), sumTo_zero (n := d) fun i hi => h0 (t + m + i) (by omega) (by omega)]
  omega
theorem turn_inv {S i t : Nat} (hi : i < S) (ht : t < S) : (i + (t + S - i) % S) % S = t ∧ (t + S - i) % S < S ∧ (S - (t + S - i) % S) % S = (if t ≤ i then i - t else i + S - t) ∧ ∀ j, j < S → (i + j) % S = t → j = (t + S - i) % S := by
  have hS : 0 < S := by omega
  have e1 : (t + S - i) % S = if t < i then t + S - i else t - i := by
    split
    · exact Nat.mod_eq_of_lt (by omega)
    · rw [show t + S - i = (t - i) + S by omega, Nat.add_mod_right, Nat.mod_eq_of_lt (by omega)]
  refine ⟨?_, Nat.mod_lt _ hS, ?_, ?_⟩
  · rw [e1]
    split
    · rw [show i + (t + S - i) = t + S by omega, Nat.add_mod_right, Nat.mod_eq_of_lt ht]
    · rw [show i + (t - i) = t by omega, Nat.mod_eq_of_lt ht]
  · rw [e1]
    by_cases h : t < i
    · rw [if_pos h, if_pos (by omega), show S - (t + S - i) = i - t by omega, Nat.mod_eq_of_lt (by omega)]
    · rw [if_neg h]
      by_cases h2 : t = i
      · subst h2
        rw [if_pos (Nat.le_refl _), Nat.sub_self, Nat.sub_zero, Nat.mod_self]
      · rw [if_neg (by omega), Nat.mod_eq_of_lt (by omega)]
        omega
  · intro j hj he
    rw [e1]
    by_cases h : i + j < S
    · rw [Nat.mod_eq_of_lt h] at he
      rw [if_neg (by omega)]
      omega
    · rw [show i + j = (i + j - S) + S by omega, Nat.add_mod_right, Nat.mod_eq_of_lt (by omega)] at he
      rw [if_pos (by omega)]
      omega
theorem cyc_turn {S t : Nat} (a : Nat → Int) (ps : List Int) (hm0 : 0 < ps.length) (ht : t + ps.length ≤ S) : cyc S a (nth (turnedv ps S)) t = sumTo ps.length fun j => nth ps j * a (t + j) := by
  have htS : t < S := by omega
  unfold cyc
  have h1 : ∀ i, i < S → (sumTo S fun j => if (i + j) % S = t then a i * nth (turnedv ps S) j else 0) = if t ≤ i ∧ i < t + ps.length then a i * nth ps (i - t) else 0 := by
    intro i hi
    obtain ⟨e1, e2, e3, e4⟩ := turn_inv hi htS
    rw [sumTo_one ((t + S - i) % S) e2 _ fun j hj hne => if_neg fun he => hne (e4 j hj he), if_pos e1]
    unfold turnedv
    rw [nth_mk e2]
    unfold turnTo
    rw [e3]
    by_cases h : t ≤ i
    · rw [if_pos h]
      by_cases h2 : i < t + ps.length
      · rw [if_pos (show i - t < ps.length by omega), if_pos ⟨h, h2⟩]
      · rw [if_neg (show ¬ i - t < ps.length by omega), if_neg (by omega), Int.mul_zero]
    · rw [if_neg h, if_neg (show ¬ i + S - t < ps.length by omega), if_neg (by omega), Int.mul_zero]
  rw [sumTo_congr h1, sumTo_from ht fun i _ h => if_neg h]
  refine sumTo_congr fun j hj => ?_
  rw [if_pos (by omega), Nat.add_sub_cancel_left, Int.mul_comm]
def partv (ts : List Int) (at_ L : Nat) : List Int := mk L fun i => nth ts (at_ + i)
theorem blk_sums {S i at_ L : Nat} (ps ts : List Int) (hm0 : 0 < ps.length) (hi : i + ps.length ≤ S) (hL : i + ps.length ≤ L) (hLS : L ≤ S) : cyc S (nth (widev (partv ts at_ L) S)) (nth (turnedv ps S)) i = sl (nth ps) (nth ts) ps.length (at_ + i) := by
  rw [cyc_turn _ ps hm0 hi]
  unfold sl
  refine sumTo_congr fun j hj => ?_
  unfold widev partv
  rw [mk_length, nth_mk (show i + j < S by omega), if_pos (show i + j < L by omega), nth_mk (show i + j < L by omega), Nat.add_assoc]
theorem mk_append (a b : Nat) (f : Nat → Int) : mk a f ++ mk b (fun i => f (a + i)) = mk (a + b) f := by
  induction b with
  | zero => simp [mk]
  | succ b ih => rw [mk_succ, ← List.append_assoc, ih, ← Nat.add_assoc, mk_succ]
def manyv (sums each q : Nat) : Nat := min each (sums - q * each)
theorem flat_range {sums each : Nat} (f : Nat → Int) : ∀ k, (∀ q, q < k → q * each < sums) → ((List.range k).flatMap fun q => mk (manyv sums each q) fun i => f (q * each + i)) = mk (min sums (k * each)) f := by
  intro k
  induction k with
  | zero => intro _; simp [mk]
  | succ k ih =>
    intro h
    rw [List.range_succ, List.flatMap_append, ih fun q hq => h q (by omega)]
    have h1 := h k (Nat.lt_succ_self k)
    have h2 : (k + 1) * each = k * each + each := Nat.succ_mul k each
    rw [show min sums (k * each) = k * each by omega, show min sums ((k + 1) * each) = k * each + manyv sums each k by unfold manyv; omega, ← mk_append]
    simp
theorem blocks_all {sums each : Nat} (hs : 0 < sums) (he : 0 < each) : (∀ q, q < (sums - 1) / each + 1 → q * each < sums) ∧ sums ≤ ((sums - 1) / each + 1) * each := by
  have h1 := Nat.div_add_mod (sums - 1) each
  have h2 := Nat.mod_lt (sums - 1) he
  have h3 : ((sums - 1) / each + 1) * each = each * ((sums - 1) / each) + each := by rw [Nat.succ_mul, Nat.mul_comm]
  refine ⟨fun q hq => ?_, by omega⟩
  have h4 : q * each ≤ (sums - 1) / each * each := Nat.mul_le_mul_right _ (by omega)
  rw [Nat.mul_comm ((sums - 1) / each)] at h4
  omega
end Go.Proofs.YtdejablhpljdfaaGreat
namespace Go.Proofs.YtdejablhpljdfaaGreat
open Go.RowKit BG
set_option linter.unusedVariables false
section
variable {P : Program} {ops : Array Oper} {Q : Exit → Act → World → Prop} {n l : Nat}
abbrev RoundFence (l : Nat) : Fence := Fence.wide.inRound l
theorem rowsIn_wide {row : String} {args : Array Value} {w : World} {R : Value → World → Prop} (h : Rows P row args w R) : RowsIn Fence.wide n P row args w R :=
  fun c cs _ => let ⟨v, w', r, s⟩ := h c cs; ⟨v, w', r, stepsIn_wide.2 s⟩
theorem bridge_op {o : Oper} {a : Act} {w : World} {K : Act → World → Prop} (hd : ∀ c, o.op ≠ .defer c) (h : o.wp P a w K Q) : o.wpIn (RoundFence l) n P a w K Q := by
  refine ⟨fun _ _ => trivial, ?_⟩
  rw [Fence.inRound_round, Oper.semAt_some l _ o hd]
  unfold Oper.wp at h
  generalize (execOp a.eval o).run P w = r at *
  cases r with
  | ok n w' =>
    cases n <;> simp only [Oper.upon, Oper.uponIn] at h ⊢ <;>
      first
        | exact h
        | exact ⟨fun h => (by cases h), CallsIn.inRound l (callsIn_wide.2 h)⟩
        | exact ⟨fun h => (by cases h), rowsIn_wide h⟩
  | halt x w' => cases x <;> simp only [Oper.upon, Oper.uponIn] at h ⊢ <;> exact h
def noDefer (o : Oper) : Bool := match o.op with | .defer _ => false | _ => true
theorem noDefer_spec {o : Oper} (h : noDefer o = true) : ∀ c, o.op ≠ .defer c := by
  intro c e
  unfold noDefer at h
  rw [e] at h
  cases h
theorem bridge_list (hq : ¬ LetsOut Q) : ∀ (L : List Oper) (a : Act) (w : World), L.all noDefer = true → wpList P ops Q L a w → wpListIn (RoundFence l) n P ops Q L a w := by
  intro L
  induction L with
  | nil => intro a w _ h; exact h
  | cons o L ih =>
    intro a w hd h
    rw [List.all_cons, Bool.and_eq_true] at hd
    unfold wpList at h
    unfold wpListIn
    by_cases hw : Region.wanted o (yielded ops a.tmps) = true
    · rw [if_pos hw] at h ⊢
      rcases h with h | h
      · exact Oper.wpIn_mono (fun a w h => ih a w hd.2 h) (bridge_op (noDefer_spec hd.1) h)
      · exact absurd h.2 hq
    · rw [if_neg hw] at h ⊢
      exact ⟨fun _ _ => trivial, ih _ _ hd.2 h⟩
theorem bridge_opAt (hq : ¬ LetsOut Q) (hd : ops.all noDefer = true) {i : Nat} {K : Act → World → Prop} {a : Act} {w : World} (h : wpOp P ops Q i K a w) : wpOpIn (RoundFence l) n P ops Q i K a w := by
  unfold wpOp at h
  unfold wpOpIn
  split
  · rename_i ho; rw [ho] at h; exact h
  · rename_i o ho
    rw [ho] at h
    by_cases hw : Region.wanted o (yielded ops a.tmps) = true
    · simp only [hw, if_true] at h ⊢
      rcases h with h | h
      · have hdo : noDefer o = true := by
          rw [Array.all_eq_true] at hd
          obtain ⟨hi, e⟩ := Array.getElem?_eq_some_iff.1 ho
          rw [← e]; exact hd i hi
        exact bridge_op (noDefer_spec hdo) h
      · exact absurd h.2 hq
    · simp only [hw] at h ⊢
      exact ⟨fun _ _ => trivial, h⟩
theorem bridge_any (hq : ¬ LetsOut Q) (hd : ops.all noDefer = true) {md : Region.Mode} : ∀ (f : Nat) (listed : Array Bool) (a : Act) (w : World), wpAny P md ops Q f listed a w → wpAnyIn (RoundFence l) n P md ops Q f listed a w := by
  intro f
  induction f with
  | zero => intro listed a w h; exact h
  | succ f ih =>
    intro listed a w h
    exact ⟨h.1, fun i hi => wpOpIn_mono (fun a w h => ih _ a w h) (bridge_opAt hq hd (h.2 i hi))⟩
end
section
variable {P : Program} {n r : Nat}
theorem any_region_tail {Q : Exit → Act → World → Prop} {a : Act} {w : World} {l : List Oper} (n : Nat) (hB : Region.lexTailB .any l.toArray n = true)
    (h : wpQuiet P l.toArray (fun w' => ∃ s : KW w, w' = s.val) (fun a' => ∀ w', (∃ s : KW w, w' = s.val) → wpList P l.toArray Q (l.drop n) a' w') (l.take n) a) : wpAny P .any l.toArray Q l.toArray.size (Array.replicate l.toArray.size false) a { w with drawn := w.drawn + 1 } := by
  simp only [Region.lexTailB, Bool.and_eq_true, decide_eq_true_eq] at hB
  obtain ⟨⟨⟨⟨hsel, hn⟩, hs⟩, hc⟩, hlex⟩ := hB
  have hn' : n < l.length := by simpa using hn
  have htl : (l.take n).length = n := by simp; omega
  have hdl : (l.drop n).length = l.toArray.size - n := by simp
  have inv0 : HeadInv .any l.toArray n (Array.replicate l.toArray.size false) :=
    ⟨by simp, fun j oj _ hl => (by rw [getD_replicate_false] at hl; cases hl), fun t _ ht => getD_in (by simpa using ht) (getD_replicate_false _ _)⟩
  have H := head_lex (md := .any) (g := l.toArray.size - n) hsel hs hc hn (l.take n) 0 _ a (fun j hj => by
    have hj' : j < n := by rw [htl] at hj; exact hj
    simp [hj']) (by simpa using htl) inv0 (by rw [htl]; exact hlex) h
  have := any_of_head (Q' := Q) (g := l.toArray.size - n) (fun listed a' w' hw' hL => by
    have := wpAny_of_seq (md := .any) (Q' := Q) (l.drop n) n listed a' w' (fun j => by simp [List.getElem?_drop]) (by rw [hdl]; exact hL.1) (hL.2 w' hw')
    rwa [hdl] at this) _ _ _ { w with drawn := w.drawn + 1 } ⟨⟨w.drew, kept_drew (kept_refl w)⟩, rfl⟩ H
  rw [htl, show n + (l.toArray.size - n) = l.toArray.size from by omega] at this
  exact this
theorem any_region_quiet {C : World → Prop} {Q : Exit → Act → World → Prop} {a : Act} {w : World} {l : List Oper} (hB : Region.lexB .any l.toArray = true) (hC : C { w with drawn := w.drawn + 1 })
    (h : wpQuiet P l.toArray C (fun a' => ∀ w', C w' → Q .normal a' w') l a) : wpAny P .any l.toArray Q l.toArray.size (Array.replicate l.toArray.size false) a { w with drawn := w.drawn + 1 } := by
  simp only [Region.lexB, Bool.and_eq_true] at hB
  refine wpAny_of_quiet (Q := fun a' => ∀ w', C w' → Q .normal a' w') (fun _ w' hw' h => h w' hw') _ _ _ _ hC ?_
  have := wpAnyQ_lex (C := C) (md := .any) hB.1 l 0 (Array.replicate l.toArray.size false) a (by simp) (by simpa using hB.2) h
  simpa using this
theorem rd_region_kept {id : Nat} {Q : Exit → Act → World → Prop} {a : Act} {w : World} {l : List Oper} (hm : P.follows .mixedOrders = true) (hB : Region.lexB .any l.toArray = true) (hd : l.toArray.all noDefer = true) (hq : ¬ LetsOut Q)
    (h : wpQuiet P l.toArray (fun w' => ∃ s : KW w, w' = s.val) (fun a' => ∀ w', (∃ s : KW w, w' = s.val) → Q .normal a' w') l a) : (Code.region id l.toArray true).wpIn (RoundFence r) n P Q a w :=
  wpIn_region_any hm (bridge_any hq hd _ _ _ _ (any_region_quiet (C := fun w' => ∃ s : KW w, w' = s.val) hB ⟨⟨w.drew, kept_drew (kept_refl w)⟩, rfl⟩ h))
end
section
variable {P : Program} {ops : Array Oper} {md : Region.Mode} {C : World → Prop}
def sinkFrom (md : Region.Mode) (ops : Array Oper) (s n : Nat) : Bool :=
  (List.range n).all fun i => decide (i < s) || (List.range (n + 1)).any fun j => decide (i < j) && Region.waitsFor md ops j i
def chainFrom (md : Region.Mode) (ops : Array Oper) (n : Nat) : Bool :=
  (List.range ops.size).all fun t => decide (t ≤ n) || (List.range t).any fun j => decide (n ≤ j) && Region.waitsFor md ops t j
theorem tail_waits_from {s n : Nat} {listed : Array Bool} (hs : sinkFrom md ops s n = true) (hc : chainFrom md ops n = true) (hn : n < ops.size) (inv : HeadInv md ops n listed) :
    ∀ (d i : Nat), n - i = d → s ≤ i → i < n → listed.getD i true = false → ∀ t, n ≤ t → t ∉ Region.ready md ops listed := by
  intro d
  induction d using Nat.strongRecOn with
  | _ d ih =>
    intro i hd hsi hi hun t ht hr
    obtain ⟨_, ot, hot, hall⟩ := mem_ready.1 hr
    have htlt : t < ops.size := (Array.getElem?_eq_some_iff.1 hot).1
    by_cases htn : t = n
    · subst htn
      have h1 := List.all_eq_true.1 hs i (List.mem_range.2 hi)
      rw [Bool.or_eq_true, decide_eq_true_eq] at h1
      obtain ⟨j, hj, hj2⟩ := List.any_eq_true.1 (h1.resolve_left (by omega))
      simp only [Bool.and_eq_true, decide_eq_true_eq] at hj2
      obtain ⟨oj, hoj, e, he, hb, hon⟩ := Region.waitsFor_spec hj2.2
      have hjle : j ≤ t := by have := List.mem_range.1 hj; omega
      by_cases hjt : j = t
      · subst hjt
        have : oj = ot := Option.some.inj (hoj.symm.trans hot)
        subst this
        have h2 := hall e he hb
        rw [hon, getD_both hun] at h2
        cases h2
      · cases hl : listed.getD j false with
        | true =>
          have h2 := inv.closed j oj hoj hl e he hb
          rw [hon, getD_both hun] at h2
          cases h2
        | false =>
          have hjs : j < listed.size := by rw [inv.size]; omega
          exact ih (t - j) (by omega) j rfl (by omega) (by omega) (getD_in hjs hl) t (Nat.le_refl _) hr
    · have h1 := List.all_eq_true.1 hc t (List.mem_range.2 htlt)
      simp only [Bool.or_eq_true, decide_eq_true_eq] at h1
      rcases h1 with h1 | h1
      · omega
      · obtain ⟨j, hj, hj2⟩ := List.any_eq_true.1 h1
        simp only [Bool.and_eq_true, decide_eq_true_eq] at hj2
        have hjt := List.mem_range.1 hj
        obtain ⟨o', ho', e, he, hb, hon⟩ := Region.waitsFor_spec hj2.2
        have : o' = ot := Option.some.inj (ho'.symm.trans hot)
        subst this
        have h2 := hall e he hb
        rw [hon, getD_both (inv.tail j hj2.1 (by omega))] at h2
        cases h2
theorem head_first_from {s n i : Nat} {oi : Oper} {v : Value} {L : Array Bool → Act → Prop} (hi : ops[i]? = some oi) (hsel : ∀ (j : Nat) (o : Oper) cs b, ops[j]? = some o → o.op ≠ .select cs b)
    (hs : sinkFrom md ops s n = true) (hc : chainFrom md ops n = true) (hn : n < ops.size) (hsi : s ≤ i) (hin : i < n) (hdone : ∀ listed a, L listed a → ∀ j ∈ Region.ready md ops listed, n ≤ j) :
    ∀ (f : Nat) (listed : Array Bool) (a : Act), HeadInv md ops n listed →
      (∀ j oj, ops[j]? = some oj → j ≠ i → listed.getD j true = false → (∀ e ∈ oj.after, Region.binds md e = true → e.on ≠ i) → oi.apart ops oj = true) →
      i ∈ Region.ready md ops listed → YieldsIn P ops C oi v a →
      anyHead P md ops C n L f (listed.setIfInBounds i true) (a.put oi.dst v) → anyHead P md ops C n L (f + 1) listed a := by
  intro f
  induction f with
  | zero =>
    intro listed a inv _ hr hy H
    refine ⟨fun h => (by rw [h] at hr; cases hr), fun j hj => ?_⟩
    have hjn : j < n := Nat.lt_of_not_le fun h => tail_waits_from hs hc hn inv _ i rfl hsi hin (mem_ready.1 hr).1 j h hj
    refine ⟨hjn, ?_⟩
    by_cases hji : j = i
    · subst hji; exact hy.qOp hi H
    · have := hdone _ _ H j (ready_mono hj hji)
      omega
  | succ f ih =>
    intro listed a inv hfree hr hy H
    have hun := (mem_ready.1 hr).1
    refine ⟨fun h => (by rw [h] at hr; cases hr), fun j hj => ?_⟩
    have hjn : j < n := Nat.lt_of_not_le fun h => tail_waits_from hs hc hn inv _ i rfl hsi hin hun j h hj
    refine ⟨hjn, ?_⟩
    by_cases hji : j = i
    · subst hji; exact hy.qOp hi H
    · obtain ⟨hjun, oj, hoj, hall⟩ := mem_ready.1 hj
      have hnot : ∀ e ∈ oj.after, Region.binds md e = true → e.on ≠ i := fun e he hb heq => by
        have h1 := hall e he hb
        rw [heq, getD_both hun] at h1
        cases h1
      have h2 := qOp_put hoj (hfree j oj hoj hji hjun hnot) (fun cs b => hsel i oi cs b hi) (fun cs b => hsel j oj cs b hoj) hy (H.2 j (ready_mono hj hji)).2
      refine qOp_mono (fun a' h3 => ih _ a' (inv.set hj hjn) (fun q oq hq hqi hqun hno => hfree q oq hq hqi ?_ hno) (ready_mono hr (Ne.symm hji)) h3.1 ?_) h2
      · by_cases hjq : j = q
        · subst hjq; exact hjun
        · rw [getD_set_ne true hjq] at hqun; exact hqun
      · rw [Array.setIfInBounds_comm _ _ hji]
        exact h3.2
def pureB (o : Oper) : Bool := match o.op with | .move _ | .extract .. => true | _ => false
theorem pure_yields {o : Oper} (hp : pureB o = true) {a : Act} {w : World} {K : Act → World → Prop} {Q : Exit → Act → World → Prop} (h : o.wp P a w K Q) : ∃ v, (∀ w', (execOp a.eval o).run P w' = .ok (.value v) w') ∧ K (a.put o.dst v) w := by
  obtain ⟨dst, op, type, pos, after, guard⟩ := o
  cases op <;> simp only [pureB, Bool.false_eq_true] at hp
  case move x => exact ⟨_, fun _ => rfl, h⟩
  case extract x i =>
    unfold Oper.wp at h
    simp only [execOp] at h ⊢
    unfold Instr.extract at h ⊢
    split at h
    · split at h
      · exact ⟨_, fun _ => rfl, h⟩
      · exact h.elim
    · exact h.elim
def tailB (md : Region.Mode) (ops : Array Oper) : Nat → Nat → Array Bool → Bool
  | 0, _, listed => (Region.ready md ops listed).isEmpty
  | g + 1, k, listed => (decide (Region.ready md ops listed = [k]) || ((match ops[k]? with | some o => pureB o | none => false) && Region.free md ops listed k && (Region.ready md ops listed).contains k)) && tailB md ops g (k + 1) (listed.setIfInBounds k true)
theorem wpAny_of_tail {Q' : Exit → Act → World → Prop} (hq : ¬ LetsOut Q') (hQ : ∀ c a a' w, Q' (.panic c) a w → Q' (.panic c) a' w) (hsel : Region.noSelect ops = true) : ∀ (l : List Oper) (k : Nat) (listed : Array Bool) (a : Act) (w : World), (∀ j, l[j]? = ops[k + j]?) →
    tailB md ops l.length k listed = true → wpList P ops Q' l a w → wpAny P md ops Q' l.length listed a w
  | [], _, _, _, _, _, hB, h => ⟨by simpa [tailB] using hB, h⟩
  | o :: l, k, listed, a, w, hl, hB, h => by
    have h0 : ops[k]? = some o := by simpa using (hl 0).symm
    simp only [List.length_cons, tailB, Bool.and_eq_true, Bool.or_eq_true, decide_eq_true_eq, h0] at hB
    have hl' : ∀ j, l[j]? = ops[k + 1 + j]? := fun j => by have := hl (j + 1); simpa [Nat.add_assoc, Nat.add_comm 1 j] using this
    obtain ⟨hB | ⟨⟨hp, hf⟩, hr⟩, hB'⟩ := hB
    · refine ⟨fun h1 => (by rw [hB] at h1; cases h1), fun i hi => ?_⟩
      rw [hB] at hi
      have hik : i = k := by simpa using hi
      subst hik
      have hw : wpOp P ops Q' i (wpList P ops Q' l) a w := by unfold wpOp; simp only [h0]; exact h
      exact wpOp_mono (fun a' w' h' => wpAny_of_tail hq hQ hsel l (i + 1) _ a' w' hl' hB' h') hw
    · unfold wpList at h
      by_cases hw : Region.wanted o (yielded ops a.tmps) = true
      · rw [if_pos hw] at h
        obtain ⟨v, hv, hK⟩ := pure_yields hp (h.resolve_right fun h => hq h.2)
        exact wpAny_take h0 hsel hf hr (fun c a w => hQ c _ _ w) (.inl ⟨hw, hv⟩) (wpAny_of_tail hq hQ hsel l (k + 1) _ _ _ hl' hB' hK)
      · rw [if_neg hw] at h
        exact wpAny_take h0 hsel hf hr (fun c a w => hQ c _ _ w) (.inr ⟨by simpa using hw, rfl⟩) (wpAny_of_tail hq hQ hsel l (k + 1) _ _ _ hl' hB' h)
def lexHeadT (md : Region.Mode) (ops : Array Oper) (g : Nat) : Nat → Nat → Array Bool → Bool
  | 0, k, listed => (Region.ready md ops listed).all (fun j => decide (k ≤ j)) && tailB md ops g k listed
  | f + 1, k, listed => (Region.ready md ops listed).contains k && Region.free md ops listed k && lexHeadT md ops g f (k + 1) (listed.setIfInBounds k true)
theorem head_lex_from {s n g : Nat} {Lq : Act → Prop} (hsel : Region.noSelect ops = true) (hs : sinkFrom md ops s n = true) (hc : chainFrom md ops n = true) (hn : n < ops.size) :
    ∀ (l : List Oper) (k : Nat) (listed : Array Bool) (a : Act), s ≤ k → (∀ j, j < l.length → l[j]? = ops[k + j]?) → k + l.length = n → HeadInv md ops n listed →
    lexHeadT md ops g l.length k listed = true → wpQuiet P ops C Lq l a →
    anyHead P md ops C n (fun listed' a' => ((∀ j ∈ Region.ready md ops listed', n ≤ j) ∧ tailB md ops g n listed' = true) ∧ Lq a') l.length listed a := by
  intro l
  induction l with
  | nil =>
    intro k listed a _ _ hk _ hB h
    obtain rfl : k = n := by simpa using hk
    simp only [List.length_nil, lexHeadT, Bool.and_eq_true, List.all_eq_true, decide_eq_true_eq] at hB
    exact ⟨hB, h⟩
  | cons o l ih =>
    intro k listed a hsk hl hk inv hB h
    have h0 : ops[k]? = some o := by simpa using (hl 0 (by simp)).symm
    simp only [List.length_cons, lexHeadT, Bool.and_eq_true] at hB
    obtain ⟨⟨hr, hf⟩, hB'⟩ := hB
    have hkn : k < n := by simp only [List.length_cons] at hk; omega
    have hr' : k ∈ Region.ready md ops listed := by simpa using hr
    have hst : qOp P ops C k (wpQuiet P ops C Lq l) a := by unfold qOp; simp only [h0]; exact h
    obtain ⟨v, hy, hK⟩ := yieldsIn_of_qOp h0 hst
    refine head_first_from h0 (Region.noSelect_spec hsel) hs hc hn hsk hkn (fun listed' a' hL => hL.1.1) l.length listed a inv (Region.free_spec h0 hf) hr' hy ?_
    exact ih (k + 1) _ _ (by omega) (fun j hj => by have := hl (j + 1) (by simp; omega); simpa [Nat.add_assoc, Nat.add_comm 1 j] using this) (by simp only [List.length_cons] at hk; omega) (inv.set hr' hkn) hB' hK
def lexTail0B (md : Region.Mode) (ops : Array Oper) (n : Nat) : Bool :=
  Region.noSelect ops && decide (n < ops.size) && sinkFrom md ops 0 n && chainFrom md ops n && lexHeadT md ops (ops.size - n) n 0 (Array.replicate ops.size false)
def lexTail1B (md : Region.Mode) (ops : Array Oper) (n : Nat) : Bool :=
  Region.noSelect ops && decide (n < ops.size) && sinkFrom md ops 1 n && chainFrom md ops n && (Region.ready md ops (Array.replicate ops.size false)).contains 0 && Region.free md ops (Array.replicate ops.size false) 0 && lexHeadT md ops (ops.size - n) (n - 1) 1 ((Array.replicate ops.size false).setIfInBounds 0 true)
end
section
variable {P : Program} {n r : Nat}
theorem any_region_tail0 {Q : Exit → Act → World → Prop} {a : Act} {w : World} {l : List Oper} (n : Nat) (hq : ¬ LetsOut Q) (hQ : ∀ c a a' w, Q (.panic c) a w → Q (.panic c) a' w) (hB : lexTail0B .any l.toArray n = true)
    (h : wpQuiet P l.toArray (fun w' => ∃ s : KW w, w' = s.val) (fun a' => ∀ w', (∃ s : KW w, w' = s.val) → wpList P l.toArray Q (l.drop n) a' w') (l.take n) a) : wpAny P .any l.toArray Q l.toArray.size (Array.replicate l.toArray.size false) a { w with drawn := w.drawn + 1 } := by
  simp only [lexTail0B, Bool.and_eq_true, decide_eq_true_eq] at hB
  obtain ⟨⟨⟨⟨hsel, hn⟩, hs⟩, hc⟩, hlex⟩ := hB
  have hn' : n < l.length := by simpa using hn
  have htl : (l.take n).length = n := by simp; omega
  have hdl : (l.drop n).length = l.toArray.size - n := by simp
  have inv0 : HeadInv .any l.toArray n (Array.replicate l.toArray.size false) :=
    ⟨by simp, fun j oj _ hl => (by rw [getD_replicate_false] at hl; cases hl), fun t _ ht => getD_in (by simpa using ht) (getD_replicate_false _ _)⟩
  have H := head_lex_from (md := .any) (g := l.toArray.size - n) hsel hs hc hn (l.take n) 0 _ a (Nat.le_refl _) (fun j hj => by
    have hj' : j < n := by rw [htl] at hj; exact hj
    simp [hj']) (by simpa using htl) inv0 (by rw [htl]; exact hlex) h
  have := any_of_head (Q' := Q) (g := l.toArray.size - n) (fun listed a' w' hw' hL => by
    have := wpAny_of_tail (md := .any) (Q' := Q) hq hQ hsel (l.drop n) n listed a' w' (fun j => by simp [List.getElem?_drop]) (by rw [hdl]; exact hL.1.2) (hL.2 w' hw')
    rwa [hdl] at this) _ _ _ { w with drawn := w.drawn + 1 } ⟨⟨w.drew, kept_drew (kept_refl w)⟩, rfl⟩ H
  rw [htl, show n + (l.toArray.size - n) = l.toArray.size from by omega] at this
  exact this
theorem any_region_tail1 {Q : Exit → Act → World → Prop} {a : Act} {w : World} {o : Oper} {l : List Oper} (v : Value) (n : Nat) (hn1 : 1 ≤ n) (hq : ¬ LetsOut Q) (hQ : ∀ c a a' w, Q (.panic c) a w → Q (.panic c) a' w) (hB : lexTail1B .any (o :: l).toArray n = true) (hy : Yields P (o :: l).toArray o v a)
    (h : wpQuiet P (o :: l).toArray (fun w' => ∃ s : KW w, w' = s.val) (fun a' => ∀ w', (∃ s : KW w, w' = s.val) → wpList P (o :: l).toArray Q (l.drop (n - 1)) a' w') (l.take (n - 1)) (a.put o.dst v)) : wpAny P .any (o :: l).toArray Q (o :: l).toArray.size (Array.replicate (o :: l).toArray.size false) a { w with drawn := w.drawn + 1 } := by
  obtain ⟨n, rfl⟩ : ∃ m, n = m + 1 := ⟨n - 1, by omega⟩
  simp only [lexTail1B, Bool.and_eq_true, decide_eq_true_eq, Nat.add_sub_cancel] at hB h
  obtain ⟨⟨⟨⟨⟨⟨hsel, hn⟩, hs⟩, hc⟩, hr⟩, hf⟩, hlex⟩ := hB
  have hn' : n < l.length := by simpa using hn
  have htl : (l.take n).length = n := by simp; omega
  have hdl : (l.drop n).length = (o :: l).toArray.size - (n + 1) := by simp
  have h0 : (o :: l).toArray[0]? = some o := by simp
  have inv0 : HeadInv .any (o :: l).toArray (n + 1) (Array.replicate (o :: l).toArray.size false) :=
    ⟨by simp, fun j oj _ hl => (by rw [getD_replicate_false] at hl; cases hl), fun t _ ht => getD_in (by simpa using ht) (getD_replicate_false _ _)⟩
  have inv1 := inv0.set (i := 0) (by simpa using hr) (by omega)
  have H := head_lex_from (md := .any) (g := (o :: l).toArray.size - (n + 1)) hsel hs hc hn (l.take n) 1 _ _ (Nat.le_refl _) (fun j hj => by
    have hj' : j < n := by rw [htl] at hj; exact hj
    rw [List.getElem?_take_of_lt hj', Nat.add_comm 1 j]; simp) (by rw [htl]; omega) inv1 (by rw [htl]; exact hlex) h
  have := any_of_head (Q' := Q) (g := (o :: l).toArray.size - (n + 1)) (fun listed a' w' hw' hL => by
    have := wpAny_of_tail (md := .any) (Q' := Q) hq hQ hsel (l.drop n) (n + 1) listed a' w' (fun j => by rw [List.getElem?_drop, show n + 1 + j = (n + j) + 1 from by omega]; simp) (by rw [hdl]; exact hL.1.2) (hL.2 w' hw')
    rwa [hdl] at this) _ _ _ { w with drawn := w.drawn + 1 } ⟨⟨w.drew, kept_drew (kept_refl w)⟩, rfl⟩ H
  rw [htl] at this
  have := wpAny_take h0 hsel hf hr (fun c a w => hQ c _ _ w) hy this
  rw [show n + ((o :: l).toArray.size - (n + 1)) + 1 = (o :: l).toArray.size from by omega] at this
  exact this
theorem rd_region_tail0 {id : Nat} {Q : Exit → Act → World → Prop} {a : Act} {w : World} {l : List Oper} (m : Nat) (hm : P.follows .mixedOrders = true) (hB : lexTail0B .any l.toArray m = true) (hd : l.toArray.all noDefer = true) (hq : ¬ LetsOut Q) (hQ : ∀ c a a' w, Q (.panic c) a w → Q (.panic c) a' w)
    (h : wpQuiet P l.toArray (fun w' => ∃ s : KW w, w' = s.val) (fun a' => ∀ w', (∃ s : KW w, w' = s.val) → wpList P l.toArray Q (l.drop m) a' w') (l.take m) a) : (Code.region id l.toArray true).wpIn (RoundFence r) n P Q a w :=
  wpIn_region_any hm (bridge_any hq hd _ _ _ _ (any_region_tail0 m hq hQ hB h))
theorem rd_region_tail1 {id : Nat} {Q : Exit → Act → World → Prop} {a : Act} {w : World} {o : Oper} {l : List Oper} (v : Value) (m : Nat) (hm : P.follows .mixedOrders = true) (hm1 : 1 ≤ m) (hB : lexTail1B .any (o :: l).toArray m = true) (hd : (o :: l).toArray.all noDefer = true) (hq : ¬ LetsOut Q) (hQ : ∀ c a a' w, Q (.panic c) a w → Q (.panic c) a' w) (hy : Yields P (o :: l).toArray o v a)
    (h : wpQuiet P (o :: l).toArray (fun w' => ∃ s : KW w, w' = s.val) (fun a' => ∀ w', (∃ s : KW w, w' = s.val) → wpList P (o :: l).toArray Q (l.drop (m - 1)) a' w') (l.take (m - 1)) (a.put o.dst v)) : (Code.region id (o :: l).toArray true).wpIn (RoundFence r) n P Q a w :=
  wpIn_region_any hm (bridge_any hq hd _ _ _ _ (any_region_tail1 v m hm1 hq hQ hB hy h))
end
end Go.Proofs.YtdejablhpljdfaaGreat
namespace Go.Proofs.YtdejablhpljdfaaGreat
open Go.RowKit BG
attribute [local go_sem] Oper.semAt_some
attribute [local go_sem ↓] run_min_at
set_option linter.unusedVariables false
abbrev BI (NB : Nat) := { q : Nat // q < NB }
def firstB (NB q : Nat) : List (BI NB) := (List.range q).filterMap fun i => if h : i < NB then some ⟨i, h⟩ else none
theorem firstB_succ {NB q : Nat} (h : q < NB) : firstB NB (q + 1) = firstB NB q ++ [⟨q, h⟩] := by
  unfold firstB
  rw [List.range_succ, List.filterMap_append]
  simp [h]
theorem firstB_map {NB : Nat} : ∀ q, q ≤ NB → (firstB NB q).map (fun x => x.1) = List.range q := by
  intro q
  induction q with
  | zero => intro _; rfl
  | succ q ih => intro h; rw [firstB_succ (show q < NB by omega), List.map_append, ih (by omega), List.range_succ]; rfl
theorem firstB_length {NB q : Nat} (h : q ≤ NB) : (firstB NB q).length = q := by
  have := congrArg List.length (firstB_map q h)
  simpa using this
def KpB (B1 B2 : Nat) (W W' : World) : Prop := W'.heap[B1]? = W.heap[B1]? ∧ W'.heap[B2]? = W.heap[B2]?
theorem kpB_t {B1 B2 : Nat} {X Y Z : World} (h : KpB B1 B2 X Y) (k : KpB B1 B2 Y Z) : KpB B1 B2 X Z := ⟨k.1.trans h.1, k.2.trans h.2⟩
theorem kpB_b {B1 B2 : Nat} {w : World} (h1 : B1 < w.heap.size) (h2 : B2 < w.heap.size) (W : World) (l : Nat) (o o' : Obj) (hl : w.heap.size ≤ l) (h : W.heap[l]? = some o) (_ : o.isCells = false) (_ : o.isWalk = false) : KpB B1 B2 W (W.putObj l o') :=
  ⟨World.putObj_heap_other (by omega), World.putObj_heap_other (by omega)⟩
theorem KpB.cell1 {B1 B2 : Nat} {W W' : World} (h : KpB B1 B2 W W') {v : Value} (c : W.cell? ⟨B1, 0, none⟩ = some v) : W'.cell? ⟨B1, 0, none⟩ = some v := (World.cell?_of_block (a := ⟨B1, 0, none⟩) h.1).trans c
theorem KpB.cell2 {B1 B2 : Nat} {W W' : World} (h : KpB B1 B2 W W') {v : Value} (c : W.cell? ⟨B2, 0, none⟩ = some v) : W'.cell? ⟨B2, 0, none⟩ = some v := (World.cell?_of_block (a := ⟨B2, 0, none⟩) h.2).trans c
def bencs (NB sums each : Nat) (x : BI NB) : Array Value := #[.int .i64 ((x.1 * each : Nat) : Int), .int .i64 ((manyv sums each x.1 : Nat) : Int)]
set_option maxRecDepth 100000 in
set_option maxHeartbeats 4000000 in
theorem blocks_stops (n B1 B2 sums each NB : Nat) (hn : 1 ≤ n) (hs : sums ≤ 1099511627776) (he : each ≤ 4096) (hNB : ∀ q, q < NB → q * each < sums) (hall : sums ≤ NB * each) (w : World) (h1 : B1 < w.heap.size) (h2 : B2 < w.heap.size)
    (c1 : w.cell? ⟨B1, 0, none⟩ = some (.int .i64 (sums : Nat))) (c2 : w.cell? ⟨B2, 0, none⟩ = some (.int .i64 (each : Nat))) :
    SeqStopsK Fence.wide n Tryz.prog 159 #[.pointer (some ⟨B1, 0, none⟩), .pointer (some ⟨B2, 0, none⟩)] (bencs NB sums each) (KpB B1 B2) (fun xs => xs.map (fun x => x.1) = List.range NB) (fun _ => True) NB w := by
  intro l J Jx W hW hJ hJx hY h0
  have C1 : W.cell? ⟨B1, 0, none⟩ = some (.int .i64 (sums : Nat)) := (hW.cell (p := ⟨B1, 0, none⟩) (by show B1 < _; omega)).trans c1
  have C2 : W.cell? ⟨B2, 0, none⟩ = some (.int .i64 (each : Nat)) := (hW.cell (p := ⟨B2, 0, none⟩) (by show B2 < _; omega)).trans c2
  refine callsIn_of_wp Tryz.func159 rfl trivial ?_ rfl
  simp only [Tryz.ntmps159, List.size_toArray, List.length_cons, List.length_nil, Nat.reduceAdd, Nat.reduceSub, Array.replicate_succ, Array.replicate_zero, List.push_toArray, List.append_toArray, List.nil_append, List.cons_append]
  clear c1 c2 hW
  gi_wp2
  gi_loopw [4] (fun p wr => ∃ q : Nat, q ≤ NB ∧ p = .int .i64 ((min sums (q * each) : Nat) : Int) ∧ KpB B1 B2 W wr ∧ J (firstB NB q) wr) (fun p _ => sums - (intOf p).toNat)
  case atStart => exact ⟨0, Nat.zero_le _, by simp, ⟨rfl, rfl⟩, h0⟩
  case round =>
    obtain ⟨q, hq, rfl, hb, hj⟩ := hrel
    have d1 : wr.cell? ⟨B1, 0, none⟩ = some (.int .i64 (sums : Nat)) := hb.cell1 C1
    have d2 : wr.cell? ⟨B2, 0, none⟩ = some (.int .i64 (each : Nat)) := hb.cell2 C2
    by_cases hlt : q < NB
    · have hqe := hNB q hlt
      have hmin : min sums (q * each) = q * each := by omega
      have hY := hY (firstB NB q) ⟨q, hlt⟩ wr hj (by rw [firstB_length hq]; exact hlt)
      have hF := firstB_succ hlt
      have hnx : min sums ((q + 1) * each) = q * each + manyv sums each q := by
        have : (q + 1) * each = q * each + each := Nat.succ_mul q each
        unfold manyv; omega
      have hmz : 0 < manyv sums each q := by
        have : 0 < each := by
          rcases Nat.eq_zero_or_pos each with e | e
          · subst e; simp at hall; omega
          · exact e
        unfold manyv; omega
      have hmv : min (each : Int) ((sums : Int) - ((q * each : Nat) : Int)) = ((manyv sums each q : Nat) : Int) := by unfold manyv; omega
      have hmle : manyv sums each q ≤ sums - q * each := by unfold manyv; omega
      unfold bencs at hY
      dsimp only at hY
      rw [hmin]
      generalize manyv sums each q = M at *
      have HNX := Lib.hid hnx
      have HF := Lib.hid hF
      clear hnx hmin hF
      generalize q * each = a at *
      obtain ⟨fn, tmps, assign, body, hy, hR⟩ := hY
      gi_wp2
      refine hR.mono ?_
      rintro e W3 (⟨rfl, hJ3, hk3⟩ | ⟨rfl, hJx3⟩)
      · have hb3 := kpB_t hb hk3
        have d3 : W3.cell? ⟨B1, 0, none⟩ = some (.int .i64 (sums : Nat)) := hb3.cell1 C1
        have d4 : W3.cell? ⟨B2, 0, none⟩ = some (.int .i64 (each : Nat)) := hb3.cell2 C2
        rw [← HF.out] at hJ3
        gi_wp2
        exact ⟨⟨q + 1, by omega, by rw [HNX.out]; go_num, hb3, hJ3⟩, by simp [intOf]; omega⟩
      · gi_wp2
        refine bodyPost_ret (results_none rfl _ _ _) rfl ?_
        exact ⟨⟨_, rfl⟩, .inr ⟨_, trivial, hJx3⟩⟩
    · obtain rfl : q = NB := by omega
      have hmin : min sums (q * each) = sums := by omega
      rw [hmin]
      clear hmin
      gi_wp2
      go_end0
      exact ⟨⟨_, rfl⟩, .inl ⟨_, firstB_map q (Nat.le_refl _), hj⟩⟩
end Go.Proofs.YtdejablhpljdfaaGreat
