/-
  Layer 5 (block): rows along rows, by the document; the closure of the blocks' places.
-/
import Derived.Test.YthbbkmkaopgmdaaBlkP
import Derived.Test.YthbbkmkaopgmdaaWConvJ
namespace Go.Proofs.Ythbbkmkaopgmdaa
open Go.RowKit BG
attribute [local go_sem ↓] Go.wp_at_zero Go.wp_at_succ run_min_at run_max_at
set_option linter.unusedVariables false

def berrv (ps ts : List Int) (size : Int) : Int := berr ps.length ts.length size (greatest ps) (greatest ts)
def bgood (ps ts : List Int) (size : Int) : Prop := berrv ps ts size = 0 ∧ slb ps.length ts.length = true
instance (ps ts : List Int) (size : Int) : Decidable (bgood ps ts size) := by unfold bgood; infer_instance
def bval (ps ts : List Int) (size : Int) : List Int := if bgood ps ts size then slidev (nth ps) (nth ts) ps.length ts.length else []
def bcnt (ps ts : List Int) (size : Int) : Int := if bgood ps ts size then countv ps.length ts.length size else 0
theorem berr_zero {m n : Nat} {size x y : Int} (hx : 0 ≤ x) (hy : 0 ≤ y) (h : berr m n size x y = 0) (hs : slb m n = true) : szb m size = true ∧ 1 ≤ m ∧ m ≤ n ∧ x * y ≤ 18446744073709551615 ∧ x * y * (m : Int) ≤ 18446744073709551615 := by
  obtain ⟨h1, h2⟩ : 1 ≤ (m : Int) ∧ (m : Int) ≤ n := of_decide_eq_true hs
  unfold berr at h
  rw [if_pos hs] at h
  by_cases h3 : szb m size = true
  · rw [if_pos h3] at h
    cases h4 : ovr x y
    · rw [h4, if_neg (by decide)] at h
      cases h5 : ovr (x * y) m
      · exact ⟨h3, by omega, by omega, ovr_no hx hy h4, ovr_no (Int.mul_nonneg hx hy) (by omega) h5⟩
      · rw [h5, if_pos rfl] at h; exact absurd h (by decide)
    · rw [h4, if_pos rfl] at h; exact absurd h (by decide)
  · rw [if_neg h3] at h; exact absurd h (by decide)
/-- What a call of Correlate tells. -/
def Ans3 (l : List Int) (c er : Int) (w : World) (e : Ending) (w' : World) : Prop :=
  ∃ A cap, e = .returned (.tuple #[.slice A l.length cap, .int .i64 c, .int .i64 er]) ∧ Rd .u64 w' A l ∧ Kept w w' ∧ l.length ≤ cap ∧ cap ≤ 9223372036854775807 ∧ Own .u64 59 w.heap.size w' (.slice A l.length cap) l
theorem Ans3.none {l : List Int} {c er : Int} {w w' : World} (hl : l = []) (hc : c = 0) (hk : Kept w w') : Ans3 l c er w (.returned (.tuple #[.slice none 0 0, .int .i64 0, .int .i64 er])) w' := by
  subst hl hc; exact ⟨Option.none, 0, rfl, Rd.nil _ _ _, hk, by simp, by omega, Own.nil _ _ _ _⟩
theorem bval_bad {ps ts : List Int} {size : Int} (h : ¬ bgood ps ts size) : bval ps ts size = [] ∧ bcnt ps ts size = 0 := by
  unfold bval bcnt; rw [if_neg h, if_neg h]; exact ⟨rfl, rfl⟩
theorem bval_good {ps ts : List Int} {size : Int} (h : bgood ps ts size) : bval ps ts size = slidev (nth ps) (nth ts) ps.length ts.length ∧ bcnt ps ts size = countv ps.length ts.length size := by
  unfold bval bcnt; rw [if_pos h, if_pos h]; exact ⟨rfl, rfl⟩
theorem blocks_c (sums each : Int) (w : World) : Calls Try.prog 49 #[.int .i64 sums, .int .i64 each] w fun e w' => e = .returned (.func (.func 71) #[] #[.pointer (some ⟨w.heap.size, 0, none⟩), .pointer (some ⟨w.heap.size + 1, 0, none⟩)]) ∧ w'.cell? ⟨w.heap.size, 0, none⟩ = some (.int .i64 sums) ∧ w'.cell? ⟨w.heap.size + 1, 0, none⟩ = some (.int .i64 each) ∧ w'.heap.size = w.heap.size + 2 ∧ Kept w w' := by
  go_enter Try.func49, Try.ntmps49
  go_wp2_with fail
  go_ret
  refine ⟨rfl, ?_, ?_, by simp, kept_alloc (kept_alloc (kept_refl w) _) _⟩
  · exact blk_cell (blk_alloc (blk_new w (.cells #[.int .i64 sums] 3)) _) 0
  · exact blk_cell (blk_new1 w (.cells #[.int .i64 sums] 3) (.cells #[.int .i64 each] 3)) 0
end Go.Proofs.Ythbbkmkaopgmdaa
