/-
  Layer 5 (block): rows along rows, by the document; the closure of the blocks' places.
-/
import Derived.Test.YthjedgniedpkfaaBlkP
import Derived.Test.YthjedgniedpkfaaWConv5
namespace Go.Proofs.Ythjedgniedpkfaa
open Go.RowKit BG
attribute [local go_sem ↓] Go.wp_at_zero Go.wp_at_succ run_min_at run_max_at
set_option linter.unusedVariables false

def berrv (ps ts : List Int) (size : Int) : Int := berr ps.length ts.length size (greatest ps) (greatest ts)
def bgood (ps ts : List Int) (size : Int) : Prop := berrv ps ts size = 0 ∧ slb ps.length ts.length = true
instance (ps ts : List Int) (size : Int) : Decidable (bgood ps ts size) := by unfold bgood; infer_instance
def bval (ps ts : List Int) (size : Int) : List Int := if bgood ps ts size then slidev (nth ps) (nth ts) ps.length ts.length else []
def bcnt (ps ts : List Int) (size : Int) : Int := if bgood ps ts size then countv ps.length ts.length size else 0
theorem berr_zero {m n : Nat} {size x y : Int} (hx : 0 ≤ x) (hy : 0 ≤ y) (h : berr m n size x y = 0) (hs : slb m n = true) : szb m size = true ∧ 1 ≤ m ∧ m ≤ n ∧ x * y ≤ 18446744073709551615 ∧ x * y * (m : Int) ≤ 18446744073709551615 := by
  obtain ⟨h1, h2⟩ : 1 ≤ (m : Int) ∧ (m : Int) ≤ n := of_decide_eq_true hs
  unfold berr at h
  rw [if_pos hs] at h
  by_cases h3 : szb m size = true
  · rw [if_pos h3] at h
    cases h4 : ovr x y
    · rw [h4, if_neg (by decide)] at h
      cases h5 : ovr (x * y) m
      · exact ⟨h3, by omega, by omega, ovr_no hx hy h4, ovr_no (Int.mul_nonneg hx hy) (by omega) h5⟩
      · rw [h5, if_pos rfl] at h; exact absurd h (by decide)
    · rw [h4, if_pos rfl] at h; exact absurd h (by decide)
  · rw [if_neg h3] at h; exact absurd h (by decide)
/-- What a call of Correlate tells. -/
def Ans3 (l : List Int) (c er : Int) (w : World) (e : Ending) (w' : World) : Prop :=
  ∃ A cap, e = .returned (.tuple #[.slice A l.length cap, .int .i64 c, .int .i64 er]) ∧ Rd .u64 w' A l ∧ Kept w w' ∧ l.length ≤ cap ∧ cap ≤ 9223372036854775807
theorem Ans3.none {l : List Int} {c er : Int} {w w' : World} (hl : l = []) (hc : c = 0) (hk : Kept w w') : Ans3 l c er w (.returned (.tuple #[.slice none 0 0, .int .i64 0, .int .i64 er])) w' := by
  subst hl hc; exact ⟨Option.none, 0, rfl, Rd.nil _ _ _, hk, by simp, by omega⟩
theorem bval_bad {ps ts : List Int} {size : Int} (h : ¬ bgood ps ts size) : bval ps ts size = [] ∧ bcnt ps ts size = 0 := by
  unfold bval bcnt; rw [if_neg h, if_neg h]; exact ⟨rfl, rfl⟩
theorem bval_good {ps ts : List Int} {size : Int} (h : bgood ps ts size) : bval ps ts size = slidev (nth ps) (nth ts) ps.length ts.length ∧ bcnt ps ts size = countv ps.length ts.length size := by
  unfold bval bcnt; rw [if_pos h, if_pos h]; exact ⟨rfl, rfl⟩
set_option maxHeartbeats 4000000 in
theorem rcorrelate_c5 (A B : Option Addr) (ca cb : Nat) (ps ts : List Int) (size : Int) (hu : U64 ps) (hv : U64 ts) (hlx : ps.length ≤ 10000000000000) (hly : ts.length ≤ 10000000000000) (w : World) (hr : Rd .u64 w A ps) (hs : Rd .u64 w B ts) : Calls Try.prog 19 #[.slice A ps.length ca, .slice B ts.length cb, .int .i64 size] w (Ans3 (bval ps ts size) (bcnt ps ts size) (berrv ps ts size) w) := by
  have hm := hr.1
  have hm2 := hs.1
  have C := rcheck_c5 A B ca cb ps ts size hu hv (by omega) (by omega) w hr hs
  rw [show berr ps.length ts.length size (greatest ps) (greatest ts) = berrv ps ts size from rfl] at C
  by_cases he : berrv ps ts size = 0
  · have S := fun w => rslides_c ps.length ts.length w
    rw [he] at C
    rw [he]
    cases hsl : slb ps.length ts.length
    · obtain ⟨e1, e2⟩ := bval_bad (ps := ps) (ts := ts) (size := size) (fun h => by rw [h.2] at hsl; cases hsl)
      have E1 := Lib.hid e1
      have E2 := Lib.hid e2
      rw [hsl] at S
      clear e1 e2 hsl he
      generalize bval ps ts size = bv at *
      generalize bcnt ps ts size = bc at *
      go_enter Try.func19, Try.ntmps19
      go_wp2_with fail
      refine C.mono ?_
      rintro e w1 ⟨rfl, hk1⟩
      go_wp2_with fail
      refine (S _).mono ?_
      rintro e w2 ⟨rfl, hk2⟩
      go_wp2_with fail
      exact bodyPost_ret (v := .tuple #[.slice none 0 0, .int .i64 0, .int .i64 0]) (by simp [results, Try.results19, go_sem]) rfl (Ans3.none E1.out E2.out (kept_trans hk1 hk2))
    · obtain ⟨g1, g2, g3, _⟩ := berr_zero (greatest_bd hu).1 (greatest_bd hv).1 (show berr ps.length ts.length size (greatest ps) (greatest ts) = 0 from he) hsl
      obtain ⟨e1, e2⟩ := bval_good (ps := ps) (ts := ts) (size := size) ⟨he, hsl⟩
      have SL := fun w1 (a : Rd .u64 w1 A ps) (b : Rd .u64 w1 B ts) => slide_c A B ca cb ps ts (by omega) (by omega) g3 (by omega) w1 a b
      have CN := fun w => rcount_c ps.length ts.length size w
      rw [← e1] at SL
      rw [← e2] at CN
      rw [hsl] at S
      clear e1 e2 hsl he g1 g2 g3
      generalize bval ps ts size = bv at *
      generalize bcnt ps ts size = bc at *
      go_enter Try.func19, Try.ntmps19
      go_wp2_with fail
      refine C.mono ?_
      rintro e w1 ⟨rfl, hk1⟩
      go_wp2_with fail
      refine (S _).mono ?_
      rintro e w2 ⟨rfl, hk2⟩
      have hk := kept_trans hk1 hk2
      have SL := SL w2 (hr.kept hk) (hs.kept hk)
      clear hk1 hk2 C S
      go_wp2_with fail
      refine SL.mono ?_
      rintro e w3 ⟨v, rfl, hown, hk3⟩
      obtain ⟨AR, cR, rfl, lR, uR, rR⟩ := hown.rd
      clear SL hown
      go_wp2_with fail
      refine (CN _).mono ?_
      rintro e w4 ⟨rfl, hk4⟩
      go_wp2_with fail
      exact bodyPost_ret (v := .tuple #[.slice AR bv.length cR, .int .i64 bc, .int .i64 0]) (by simp [results, Try.results19, go_sem]) rfl ⟨AR, cR, rfl, rR.kept hk4, kept_trans hk (kept_trans hk3 hk4), by omega, by omega⟩
  · obtain ⟨e1, e2⟩ := bval_bad (ps := ps) (ts := ts) (size := size) (fun h => he h.1)
    have E1 := Lib.hid e1
    have E2 := Lib.hid e2
    clear e1 e2
    generalize berrv ps ts size = er at *
    generalize bval ps ts size = bv at *
    generalize bcnt ps ts size = bc at *
    have hne : (er != 0) = true := by simpa using he
    go_enter Try.func19, Try.ntmps19
    go_wp2_with fail
    refine C.mono ?_
    rintro e w1 ⟨rfl, hk1⟩
    go_wp2_with fail
    exact bodyPost_ret (v := .tuple #[.slice none 0 0, .int .i64 0, .int .i64 er]) (by simp [results, Try.results19, go_sem]) rfl (Ans3.none E1.out E2.out hk1)
theorem blocks_c (sums each : Int) (w : World) : Calls Try.prog 31 #[.int .i64 sums, .int .i64 each] w fun e w' => e = .returned (.func (.func 43) #[] #[.pointer (some ⟨w.heap.size, 0, none⟩), .pointer (some ⟨w.heap.size + 1, 0, none⟩)]) ∧ w'.cell? ⟨w.heap.size, 0, none⟩ = some (.int .i64 sums) ∧ w'.cell? ⟨w.heap.size + 1, 0, none⟩ = some (.int .i64 each) ∧ w'.heap.size = w.heap.size + 2 ∧ Kept w w' := by
  go_enter Try.func31, Try.ntmps31
  go_wp2_with fail
  go_ret
  refine ⟨rfl, ?_, ?_, by simp, kept_alloc (kept_alloc (kept_refl w) _) _⟩
  · exact blk_cell (blk_alloc (blk_new w (.cells #[.int .i64 sums] 3)) _) 0
  · exact blk_cell (blk_new1 w (.cells #[.int .i64 sums] 3) (.cells #[.int .i64 each] 3)) 0
end Go.Proofs.Ythjedgniedpkfaa
