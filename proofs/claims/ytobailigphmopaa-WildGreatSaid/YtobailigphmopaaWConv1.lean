/-
  Layer 4 (conv): sizes, the greatest, what is amiss.
-/
import Derived.Test.YtobailigphmopaaConvP
import Derived.Test.YtobailigphmopaaWSame
import Derived.Test.YtobailigphmopaaTail
namespace Go.Proofs.Ytobailigphmopaa
open Go.RowKit BG
attribute [local go_sem ↓] Go.wp_at_zero Go.wp_at_succ
set_option linter.unusedVariables false

def szv (n : Int) : Int := if szOk n then ((2 ^ szL n : Nat) : Int) else 0
section
variable {P : Program} (w : World)
theorem run_max_at (ts : Array TypeId) (t : TypeId) (k k' : IntKind) (x y : Int) : (Builtin.max_ ts t #[.int k x, .int k' y]).run P w = .ok (.int k (max x y)) w := by
  rw [Go.run_max_int2, show (if y > x then y else x) = max x y by split <;> omega]
theorem run_min_at (ts : Array TypeId) (t : TypeId) (k k' : IntKind) (x y : Int) : (Builtin.min_ ts t #[.int k x, .int k' y]).run P w = .ok (.int k (min x y)) w := by
  rw [Go.run_min_int2, show (if y < x then y else x) = min x y by split <;> omega]
end
attribute [local go_sem ↓] run_min_at run_max_at
theorem greatest_c (A : Option Addr) (cap : Nat) (xs : List Int) (hu : U64 xs) (w : World) (hr : Rd .u64 w A xs) : Calls Try.prog 67 #[.slice A xs.length cap] w (Ret (.int .u64 (greatest xs)) w) := by
  have hm := hr.1
  unfold greatest
  generalize hn : xs.length = n at *
  go_enter Try.func67, Try.ntmps67
  go_wp2_with fail
  go_loopw [3, 8] (fun o i wr => ∃ q : Nat, q ≤ n ∧ i = .int .i64 q ∧ o = .int .u64 (grT (nth xs) q) ∧ Kept w wr) (fun _ i _ => n - (intOf i).toNat)
  case atStart => exact ⟨0, Nat.zero_le _, rfl, rfl, kept_refl _⟩
  case round =>
    obtain ⟨q, hq, rfl, rfl, hk⟩ := hrel
    by_cases hlt : q < n
    · obtain ⟨ad, rfl, c0⟩ := (hr.kept hk).at_ (j := q) (by omega)
      have hs : max (grT (nth xs) q) (nth xs q) = grT (nth xs) (q + 1) := rfl
      generalize hg' : grT (nth xs) (q + 1) = g' at *
      have HG := Lib.hid hg'
      clear hg'
      generalize grT (nth xs) q = g at *
      generalize nth xs q = x at *
      have HS := Lib.hid hs
      clear hs
      go_wp2_with fail
      exact ⟨⟨q + 1, by omega, by go_num, by rw [HS.out, HG.out], hk⟩, by simp [intOf]; omega⟩
    · obtain rfl : q = n := by omega
      go_wp2_with fail
      go_ret
      exact ⟨rfl, hk⟩
def ovr (a b : Int) : Bool := decide (a ≠ 0 ∧ 18446744073709551615 / a < b)
end Go.Proofs.Ytobailigphmopaa
