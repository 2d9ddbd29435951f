/-
  Layer 5 (block): rows along rows, in blocks: both ways.
-/
import Derived.Test.YthbbkmkaopgmdaaWBlk8
import Derived.Test.YthbbkmkaopgmdaaWSame
namespace Go.Proofs.Ythbbkmkaopgmdaa
open Go.RowKit BG
set_option linter.unusedVariables false

theorem u64_all {xs : List Int} (h : ∀ z ∈ xs, 0 ≤ z ∧ z ≤ 18446744073709551615) : U64 xs := by
  intro j
  unfold nth
  rw [List.getD_eq_getElem?_getD]
  by_cases hj : j < xs.length
  · rw [List.getElem?_eq_getElem hj]; exact h _ (List.getElem_mem _)
  · rw [List.getElem?_eq_none (by omega)]; exact ⟨Int.le_refl 0, by decide⟩
theorem sameL_refl (xs : List Int) : sameL xs xs = true := by simp [sameL]
theorem correlate_c5 (A B : Option Addr) (ca cb : Nat) (ps ts : List Int) (size : Int) (hu : U64 ps) (hv : U64 ts) (hlx : ps.length ≤ 10000000000000) (hly : ts.length ≤ 1000000000000) (hcb : ts.length ≤ cb) (w : World) (hr : Rd .u64 w A ps) (hs : Rd .u64 w B ts) : Calls Try.prog 32 #[.slice A ps.length ca, .slice B ts.length cb, .int .i64 size] w (Ans3 (bval ps ts size) (bcnt ps ts size) (berrv ps ts size) w) := by
  by_cases h : bgood ps ts size
  · exact correlate_good A B ca cb ps ts size hu hv hlx hly hcb h w hr hs
  · exact correlate_bad A B ca cb ps ts size hu hv hlx (by omega) h w hr hs
end Go.Proofs.Ythbbkmkaopgmdaa
