/-
  Layer 21's statements: the walks.
-/
import Derived.Test.YtkifafdbobhlpaaLaw21c
import Derived.Test.YtkifafdbobhlpaaTurnP
namespace Go.Proofs.Ytkifafdbobhlpaa
open Go.RowKit BG
attribute [local go_sem ↓] Go.wp_at_zero Go.wp_at_succ
set_option linter.unusedVariables false

/-- How often each number has been met in the first q cells. -/
def timesTo (w h : Nat) (k : Int) (q : Nat) : List Int := mk (w * h) fun i => if posOf w h k i < q then 1 else 0
theorem timesTo_zero (w h : Nat) (k : Int) : timesTo w h k 0 = mk (w * h) fun _ => 0 := mk_congr fun p _ => by simp
theorem timesTo_set {w h : Nat} (k : Int) (hw : 0 < w) (hh : 0 < h) {q : Nat} (hq : q < w * h) : (timesTo w h k q).set (cellAt w h k q) 1 = timesTo w h k (q + 1) := by
  unfold timesTo
  rw [mk_set _ (cell_lt k hw hh hq)]
  refine mk_congr fun i hi => ?_
  by_cases e : i = cellAt w h k q
  · have := pos_cell k hw hh hq
    rw [if_pos e, e, this, if_pos (by omega)]
  · rw [if_neg e]
    have : posOf w h k i ≠ q := by
      intro e2
      have := cell_pos k hw hh hi
      rw [e2] at this
      exact e this.symm
    by_cases h2 : posOf w h k i < q
    · rw [if_pos h2, if_pos (by omega)]
    · rw [if_neg h2, if_neg (by omega)]
theorem timesTo_at {w h : Nat} (k : Int) (hw : 0 < w) (hh : 0 < h) {q : Nat} (hq : q < w * h) : nth (timesTo w h k q) (cellAt w h k q) = 0 := by
  unfold timesTo
  rw [nth_mk (cell_lt k hw hh hq), pos_cell k hw hh hq, if_neg (by omega)]
theorem turnCells_no (a b k : Int) (hok : fieldOk a b = false) (w : World) : Calls Try.prog 7 #[.int .i64 a, .int .i64 b, .int .i64 k] w (Ret (.bool true) w) := by
  obtain ⟨i1, hif1, hy0, hy1, hy2⟩ := info_parts info_i64
  have C1 := cells_no a b k hok
  have C2 := rcells_no a b k hok
  clear hok
  go_enter Try.func7, Try.ntmps7
  go_wp2_with fail
  refine (C1 _).mono ?_
  rintro e w1 ⟨rfl, hk1⟩
  go_wp2_with fail
  refine (C2 _).mono ?_
  rintro e w2 ⟨rfl, hk2⟩
  have S := places_c none none 0 0 [] [] w2 (Rd.nil _ _ _) (Rd.nil _ _ _)
  rw [sameL_refl] at S
  go_wp2_with fail
  refine S.mono ?_
  rintro e w3 ⟨rfl, hk3⟩
  go_wp2_with (refine wpList_make_full _ rfl (.tmp 56) (.tmp 56) 37 rfl w.heap.size 3 i1 (.int .i64 0) 1 Try.underlying37 hif1 hy0 hy1 .i64 .i64 _ _ 0 rfl rfl (by simp) (by simp) ?b2 ?b3 ?b4 ?_)
  case b2 => rw [hy2]; omega
  case b3 => unfold maxLen; omega
  case b4 => have := hk1.size; have := hk2.size; have := hk3.size; omega
  intro w4 hown4 hgrow
  have K3 := kept_trans hk1 (kept_trans hk2 hk3)
  have K4 : Kept w w4 := K3.grown hgrow K3.size (fun k h => by cases h)
  clear hown4 hgrow K3 hk1 hk2 hk3 S C1 C2
  go_wp2_with fail
  refine wp_loop_rounds 1 ?_
  rw [rounds_succ]
  go_wp2_with fail
  refine (alive21_c _).mono ?_
  rintro e w5 ⟨rfl, hk5⟩
  go_wp2_with fail
  go_ret
  exact ⟨rfl, kept_trans K4 hk5⟩
set_option maxRecDepth 100000 in
set_option maxHeartbeats 2000000 in
theorem turnCells_yes (m h : Nat) (k : Int) (k1 : -9223372036854775808 ≤ k) (k2 : k ≤ 9223372036854775807) (hw : 0 < m) (hh : 0 < h) (hw2 : m ≤ 64) (hh2 : h ≤ 64) (w : World) : Calls Try.prog 7 #[.int .i64 m, .int .i64 h, .int .i64 k] w (Ret (.bool true) w) := by
  obtain ⟨i1, hif1, hy0, hy1, hy2⟩ := info_parts info_i64
  have hN0 : m * h ≤ 4096 := Nat.le_trans (Nat.mul_le_mul hw2 hh2) (by decide)
  have C1 := cells_yes m h k k1 k2 hw hh hw2 hh2
  have C2 := rcells_yes m h k hw hh hw2 hh2
  have hcl : (cellsv m h k).length = m * h := mk_length _ _
  have hs := size_eq m h k
  generalize hWW : wideN m h k = W at *
  generalize hHH : highN m h k = H at *
  have hCA := fun q (hq : q < m * h) => (⟨nth_mk hq, cell_lt k hw hh hq, timesTo_set k hw hh hq, timesTo_at k hw hh hq⟩ : nth (cellsv m h k) q = ((cellAt m h k q : Nat) : Int) ∧ _ ∧ _ ∧ _)
  have hT0 := timesTo_zero m h k
  have hTl : ∀ q, (timesTo m h k q).length = m * h := fun q => mk_length _ _
  have hmul : (m : Int) * (h : Int) = ((m * h : Nat) : Int) := (Int.natCast_mul _ _).symm
  have hmul2 : (W : Int) * (H : Int) = ((m * h : Nat) : Int) := by rw [← hs]; exact (Int.natCast_mul _ _).symm
  clear hs hWW hHH
  generalize hNN : m * h = N at *
  generalize cellsv m h k = cs at *
  clear hNN
  go_enter Try.func7, Try.ntmps7
  go_wp2_with fail
  refine (C1 _).mono ?_
  rintro e w1 ⟨v1, rfl, hown1, hk1⟩
  clear C1
  go_wp2_with fail
  refine (C2 _).mono ?_
  rintro e w2 ⟨v2, rfl, hown2, hk2⟩
  clear C2
  obtain ⟨A1, c1, rfl, _, _, r1⟩ := (hown1.kept hk2).rd
  obtain ⟨A2, c2, rfl, _, _, r2⟩ := hown2.rd
  clear hown1 hown2
  have S := places_c A1 A2 c1 c2 cs cs w2 r1 r2
  rw [sameL_refl, hcl] at S
  rw [hcl]
  go_wp2_with fail
  refine S.mono ?_
  rintro e w3 ⟨rfl, hk3⟩
  clear S r2
  replace r1 := r1.kept hk3
  have K3 := kept_trans hk1 (kept_trans hk2 hk3)
  clear hk1 hk2 hk3
  go_wp2_with (refine wpList_make_full _ rfl (.tmp 56) (.tmp 56) 37 rfl w3.heap.size 3 i1 (.int .i64 0) 1 Try.underlying37 hif1 hy0 hy1 .i64 .i64 _ _ N rfl rfl (by simp) (by simp) ?b2 ?b3 ?b4 ?_)
  case b2 => rw [hy2]; omega
  case b3 => unfold maxLen; omega
  case b4 => omega
  intro w4 hown4 hgrow
  have K4 : Kept w3 w4 := (kept_refl w3).grown hgrow (Nat.le_refl _) (fun k h => by cases h)
  rw [toList_madeCells_one] at hown4
  have hown5 : w4.ownsRow w3.heap.size 3 1 (.slice (some ⟨w3.heap.size, 0, none⟩) N N) N ((timesTo m h k 0).map (Value.int .i64)) := by
    rw [hT0, mk_zero]; exact hown4
  clear hown4 hgrow hT0
  generalize hg2 : w3.heap.size = g2 at *
  go_wp2_with fail
  go_loopw [60] (fun i wr => ∃ q : Nat, q ≤ N ∧ i = .int .i64 q ∧ wr.ownsRow w3.heap.size 3 1 (.slice (some ⟨g2, 0, none⟩) N N) N ((timesTo m h k q).map (Value.int .i64)) ∧ Kept w3 wr) (fun i _ => N - (intOf i).toNat)
  case atStart => exact ⟨0, Nat.zero_le _, rfl, hg2 ▸ hown5, K4⟩
  case round =>
    clear hown5 K4
    obtain ⟨q, hq, rfl, hown, hk⟩ := hrel
    by_cases hlt : q < N
    · obtain ⟨ad, rfl, c0⟩ := (r1.kept hk).at_ (j := q) (by omega)
      obtain ⟨e1, e2, e3, e4⟩ := hCA q hlt
      rw [e1] at c0
      have hl := hTl q
      have d0 := World.ownsRow.cellAt hown (cellAt m h k q) (by omega)
      rw [List.getElem?_map, List.getElem?_eq_getElem (by omega), Option.map_some, ← nth_lt (by omega), e4] at d0
      have f0 := World.ownsRow.frozenAt hown (cellAt m h k q)
      have S := World.ownsRow.stored hown (cellAt m h k q) (.int .i64 1)
      have e5 : (Value.int .i64 1) = Value.int .i64 (1 : Int) := rfl
      rw [← List.map_set, e3] at S
      generalize cellAt m h k q = ci at *
      have ea : (⟨g2, 0, none⟩ : Addr).add ci = ⟨g2, ci, none⟩ := by unfold Addr.add; split <;> simp_all
      clear e1 e3 e4 hl
      go_wp2_with fail
      exact ⟨⟨q + 1, by omega, by go_num, S.1, kept_grown hk hown (Nat.le_refl _) S.2⟩, by simp [intOf]; omega⟩
    · obtain rfl : q = N := by omega
      go_wp2_with fail
      refine (alive21_c _).mono ?_
      rintro e w5 ⟨rfl, hk5⟩
      go_wp2_with fail
      go_ret
      exact ⟨rfl, kept_trans K3 (kept_trans hk hk5)⟩
theorem turnCells_w (a b k : Int) (k1 : -9223372036854775808 ≤ k) (k2 : k ≤ 9223372036854775807) (w : World) : Calls Try.prog 7 #[.int .i64 a, .int .i64 b, .int .i64 k] w (Ret (.bool true) w) := by
  cases hok : fieldOk a b
  · exact turnCells_no a b k hok w
  · have hf : 1 ≤ a ∧ a ≤ 64 ∧ 1 ≤ b ∧ b ≤ 64 := by simpa [fieldOk] using hok
    have := turnCells_yes a.toNat b.toNat k k1 k2 (by omega) (by omega) (by omega) (by omega) w
    rwa [show ((a.toNat : Nat) : Int) = a by omega, show ((b.toNat : Nat) : Int) = b by omega] at this
end Go.Proofs.Ytkifafdbobhlpaa
