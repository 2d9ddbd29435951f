/-
  Layer 5 (block): rows with noughts behind, and the other way round.
-/
import Derived.Test.YthbbkmkaopgmdaaWBlk3
import Derived.Test.YthbbkmkaopgmdaaWConvJ
import Derived.Laws.CopyOwn
namespace Go.Proofs.Ythbbkmkaopgmdaa
open Go.RowKit BG
attribute [local go_sem ↓] Go.wp_at_zero Go.wp_at_succ
set_option linter.unusedVariables false

theorem own_full {w : World} {base g N : Nat} {e : TypeId} {xs : List Value} (h : w.ownsRow base e 1 (.slice (some ⟨g, 0, none⟩) N N) N xs) : w.heap[g]? = some (.cells xs.toArray e (0, 0)) ∧ base ≤ g ∧ N ≤ maxLen ∧ xs.length = N := by
  have hl := h.1
  rcases h.2 with ⟨h0, _⟩ | ⟨g', cap, cur, he, hb, hg, h1, h2, h3, h4⟩
  · cases h0
  · cases he
    rw [List.take_of_length_le (by simp; omega)] at h4
    refine ⟨?_, hb, h2, by omega⟩
    rw [hg, ← h4]
theorem full_own {w : World} {base g N : Nat} {e : TypeId} {xs : List Value} (hg : w.heap[g]? = some (.cells xs.toArray e (0, 0))) (hb : base ≤ g) (hm : N ≤ maxLen) (hl : xs.length = N) : w.ownsRow base e 1 (.slice (some ⟨g, 0, none⟩) N N) N xs :=
  ⟨by omega, .inr ⟨g, N, xs.toArray, rfl, hb, hg, Nat.le_refl _, hm, by simp [hl], by simp [List.take_of_length_le, hl]⟩⟩
theorem splice_wide (xs : List Int) {size : Nat} (h : xs.length ≤ size) : splice (List.replicate size (Value.int .u64 0)) 0 (xs.map (Value.int .u64)) = (widev xs size).map (Value.int .u64) := by
  rw [← wide_is xs h]
  unfold splice
  rw [List.take_zero, List.nil_append, List.drop_replicate, List.length_map, Nat.zero_add]
set_option maxHeartbeats 4000000 in
theorem wide_c (A : Option Addr) (ca S : Nat) (xs : List Int) (hl : xs.length ≤ S) (hS : S ≤ 4096) (w : World) (hr : Rd .u64 w A xs) :
    Calls Try.prog 50 #[.slice A xs.length ca, .int .i64 (S : Nat)] w fun e w' => ∃ v, e = .returned v ∧ Own .u64 59 w.heap.size w' v (widev xs S) ∧ Kept w w' := by
  obtain ⟨i1, hif1, hy0, hy1, hy2⟩ := info_parts info_u64
  have hwl := widev_length xs S
  have hsp := splice_wide xs hl
  have hif : (Try.prog.info? 59).map (·.size) = some 1 := by rw [hif1]; simp [hy1]
  go_enter Try.func50, Try.ntmps50
  go_wp2_with (refine wpList_make_full _ rfl (.tmp 6) (.tmp 6) 68 rfl w.heap.size 59 i1 (.int .u64 0) 1 Try.underlying68 hif1 hy0 hy1 .i64 .i64 _ _ S rfl rfl (by simp) (by simp) ?b2 ?b3 ?b4 ?_)
  case b2 => rw [hy2]; omega
  case b3 => unfold maxLen; omega
  case b4 => exact Nat.le_refl _
  intro w4 hown4 hgrow
  have K4 : Kept w w4 := (kept_refl w).grown hgrow (Nat.le_refl _) (fun k h => by cases h)
  rw [toList_madeCells_one] at hown4
  obtain ⟨hg, _, hm, _⟩ := own_full hown4
  have r4 := hr.kept K4
  clear hown4 hgrow
  generalize hgg : w.heap.size = g at *
  obtain ⟨X1, hX1⟩ : ∃ X1, X1 = xs.map (Value.int .u64) := ⟨_, rfl⟩
  have hX1l : X1.length = xs.length := by rw [hX1, List.length_map]
  have HX := Lib.hid hX1
  rw [← hX1] at hsp
  have HSP := Lib.hid hsp
  have h1 : ∀ v ∈ X1, v.oneCell' = true := by rw [hX1]; exact cells_one _ _
  have hpos : 0 < X1.length → ∃ ad, A = some ad ∧ ∀ j v, X1[j]? = some v → w4.cell? (ad.add j) = some v := by
    intro h
    obtain ⟨ad, rfl, _⟩ := r4.at_ (j := 0) (by omega)
    exact ⟨ad, rfl, by rw [hX1]; exact rd_cells r4⟩
  have HPOS := Lib.hid hpos
  have HG0 := Lib.hid hg
  clear hX1 hsp hpos hg
  go_wp2_with (refine wpList_copy_splice rfl (.tmp 8) (.tmp 9) 68 68 rfl 59 Try.underlying68 hif (some ⟨g, 0, none⟩) A S S xs.length ca (by rfl) (by rfl) g 0 (List.replicate S (Value.int .u64 0)) 59 HG0.out X1 ?c1 (fun h => ⟨rfl, HPOS.out h⟩) ?c2 h1 g w ?c3 (Nat.le_refl _) ?_)
  case c1 => rw [hX1l]; exact (Nat.min_eq_left hl).symm
  case c2 => rw [hX1l, List.length_replicate]; omega
  case c3 => rw [← hgg]; exact K4
  intro w5 HG hb5
  have K5 : Kept w w5 := by rw [← hgg] at hb5; exact hb5
  have O5 : Own .u64 59 g w5 (.slice (some ⟨g, 0, none⟩) S S) (widev xs S) := by
    unfold Own
    rw [hwl]
    refine full_own ?_ (Nat.le_refl _) hm (by rw [List.length_map, hwl])
    rw [← HSP.out]
    exact HG.out
  clear HG hb5 HPOS h1 HG0 r4 K4
  go_wp2_with fail
  go_ret
  exact ⟨_, rfl, by rw [hgg]; exact O5, K5⟩
/-- A row the other way round, modulo a size. -/
def turnTo (xs : List Int) (S q i : Nat) : Int := if (S - i) % S < q then nth xs ((S - i) % S) else 0
def turnedv (xs : List Int) (S : Nat) : List Int := mk S (turnTo xs S xs.length)
theorem turnTo_zero (xs : List Int) (S n : Nat) : mk n (turnTo xs S 0) = mk n fun _ => 0 := mk_congr fun p _ => by unfold turnTo; rw [if_neg (by omega)]
theorem turn_back {S q : Nat} (hS : 0 < S) (h : q < S) : (S - (S - q) % S) % S = q ∧ (S - q) % S < S := by
  refine ⟨?_, Nat.mod_lt _ hS⟩
  by_cases h0 : q = 0
  · subst h0; rw [Nat.sub_zero, Nat.mod_self, Nat.sub_zero, Nat.mod_self]
  · rw [Nat.mod_eq_of_lt (show S - q < S by omega), show S - (S - q) = q by omega, Nat.mod_eq_of_lt h]
theorem turnTo_set {xs : List Int} {S q : Nat} (hS : 0 < S) (hq : q < S) : (mk S (turnTo xs S q)).set ((S - q) % S) (nth xs q) = mk S (turnTo xs S (q + 1)) := by
  obtain ⟨h1, h2⟩ := turn_back hS hq
  rw [mk_set _ h2]
  refine mk_congr fun p hp => ?_
  unfold turnTo
  by_cases h : p = (S - q) % S
  · rw [if_pos h, h, h1, if_pos (Nat.lt_succ_self _)]
  · rw [if_neg h]
    have hne : (S - p) % S ≠ q := by
      intro e
      apply h
      have := (turn_back hS hp).1
      rw [e] at this
      exact this.symm
    by_cases h3 : (S - p) % S < q
    · rw [if_pos h3, if_pos (by omega)]
    · rw [if_neg h3, if_neg (by omega)]
set_option maxHeartbeats 4000000 in
theorem turned_c (A : Option Addr) (ca S : Nat) (xs : List Int) (hl : xs.length ≤ S) (hS0 : 0 < S) (hS : S ≤ 4096) (w : World) (hr : Rd .u64 w A xs) :
    Calls Try.prog 48 #[.slice A xs.length ca, .int .i64 (S : Nat)] w fun e w' => ∃ v, e = .returned v ∧ Own .u64 59 w.heap.size w' v (turnedv xs S) ∧ Kept w w' := by
  obtain ⟨i1, hif1, hy0, hy1, hy2⟩ := info_parts info_u64
  have hz := turnTo_zero xs S S
  have hset := fun q (hq : q < S) => turnTo_set (xs := xs) hS0 hq
  have htv : mk S (turnTo xs S xs.length) = turnedv xs S := rfl
  have htl : ∀ q, (mk S (turnTo xs S q)).length = S := fun q => mk_length _ _
  have htl2 : (turnedv xs S).length = S := mk_length _ _
  have hsz : ((S : Int) == 0) = false := beq_zero _ (by omega)
  generalize hla : xs.length = m at *
  have HLA := Lib.hid hla
  clear hla
  go_enter Try.func48, Try.ntmps48
  go_wp2_with (refine wpList_make_full _ rfl (.tmp 8) (.tmp 8) 68 rfl w.heap.size 59 i1 (.int .u64 0) 1 Try.underlying68 hif1 hy0 hy1 .i64 .i64 _ _ S rfl rfl (by simp) (by simp) ?b2 ?b3 ?b4 ?_)
  case b2 => rw [hy2]; omega
  case b3 => unfold maxLen; omega
  case b4 => exact Nat.le_refl _
  intro w4 hown4 hgrow
  have K4 : Kept w w4 := (kept_refl w).grown hgrow (Nat.le_refl _) (fun k h => by cases h)
  rw [toList_madeCells_one] at hown4
  have hown5 : w4.ownsRow w.heap.size 59 1 (.slice (some ⟨w.heap.size, 0, none⟩) S S) S ((mk S (turnTo xs S 0)).map (Value.int .u64)) := by
    rw [hz, mk_zero']; exact hown4
  clear hown4 hgrow hz
  generalize hg' : w.heap.size = g at *
  go_wp2_with fail
  go_loopw [12] (fun iv wr => ∃ q : Nat, q ≤ m ∧ iv = .int .i64 q ∧ wr.ownsRow g 59 1 (.slice (some ⟨g, 0, none⟩) S S) S ((mk S (turnTo xs S q)).map (Value.int .u64)) ∧ Kept w wr) (fun iv _ => m - (intOf iv).toNat)
  case atStart => exact ⟨0, Nat.zero_le _, rfl, hown5, K4⟩
  case round =>
    clear hown5 K4
    obtain ⟨q, hq, rfl, hown, hk⟩ := hrel
    by_cases hlt : q < m
    · obtain ⟨ad, rfl, c0⟩ := (hr.kept hk).at_ (j := q) (by have := HLA.out; omega)
      have hSq := hset q (by omega)
      have hml := htl q
      have hdl : (S - q) % S < S := Nat.mod_lt _ hS0
      have d0 := World.ownsRow.cellAt hown ((S - q) % S) (by omega)
      rw [List.getElem?_map, List.getElem?_eq_getElem (by omega), Option.map_some] at d0
      have f0 := World.ownsRow.frozenAt hown ((S - q) % S)
      have S0 := World.ownsRow.stored hown ((S - q) % S) (.int .u64 (nth xs q))
      rw [← List.map_set, hSq] at S0
      have HSS := Lib.hid S0
      have hd : (S : Int) - (q : Int) = ((S - q : Nat) : Int) := by omega
      have hr : (((S - q : Nat) : Int)).tmod (S : Int) = (((S - q) % S : Nat) : Int) := by rw [Int.tmod_eq_emod_of_nonneg (by omega), Int.natCast_emod]
      have hsq : S - q ≤ 4096 := by omega
      clear hSq S0
      generalize (mk S (turnTo xs S q))[(S - q) % S]'(by omega) = old at *
      generalize nth xs q = x at *
      generalize (S - q) % S = d at *
      generalize S - q = sq at *
      have ea : (⟨g, 0, none⟩ : Addr).add d = ⟨g, d, none⟩ := by unfold Addr.add; split <;> simp_all
      clear hset htl hml htv
      go_wp2_with fail
      exact ⟨⟨q + 1, by omega, by go_num, HSS.out.1, kept_grown hk hown (by omega) HSS.out.2⟩, by simp [intOf]; omega⟩
    · obtain rfl : m = q := by omega
      rw [htv] at hown
      clear hset htl htv
      have O5 : Own .u64 59 g wr (.slice (some ⟨g, 0, none⟩) S S) (turnedv xs S) := by unfold Own; rw [htl2]; exact hown
      clear hown htl2
      go_wp2_with fail
      go_ret
      exact ⟨_, rfl, by rw [hg']; exact O5, hk⟩
end Go.Proofs.Ythbbkmkaopgmdaa
