/-
  beagleref01.Same by its contract.
-/
import Derived.Test.YtobailigphmopaaSl
namespace Go.Proofs.Ytobailigphmopaa
open Go.RowKit
attribute [local go_sem ↓] Go.wp_at_zero Go.wp_at_succ
set_option linter.unusedVariables false
/-- The two lists are the same. -/
def sameL (xs ys : List Int) : Bool := decide (xs = ys)
theorem sameL_true {xs ys : List Int} (hl : xs.length = ys.length) (h : ∀ j, j < xs.length → nth xs j = nth ys j) : sameL xs ys = true := by
  simp only [sameL, decide_eq_true_eq]; exact nth_ext hl h
theorem sameL_false {xs ys : List Int} {j : Nat} (h : nth xs j ≠ nth ys j) : sameL xs ys = false := by
  simp only [sameL, decide_eq_false_iff_not]; exact fun e => h (by rw [e])
theorem same_c (A B : Option Addr) (ca cb : Nat) (xs ys : List Int) (w : World) (hx : Rd .u64 w A xs) (hy : Rd .u64 w B ys) :
    Calls Try.prog 17 #[.slice A xs.length ca, .slice B ys.length cb] w (Ret (.bool (sameL xs ys)) w) := by
  have hm := hx.1
  by_cases hl : xs.length = ys.length
  · have HL := Lib.hid hl
    have hlb : ((xs.length : Int) == (ys.length : Int)) = true := by simp [hl]
    have hlc : ((xs.length : Int) != (ys.length : Int)) = false := by simp [hl]
    clear hl
    go_enter Try.func17, Try.ntmps17
    go_wp2_with fail
    go_loopw [5] (fun i wr => ∃ j : Nat, j ≤ xs.length ∧ i = .int .i64 j ∧ Kept w wr ∧ Hid (∀ q, q < j → nth xs q = nth ys q)) (fun i _ => xs.length - (intOf i).toNat)
    case atStart => exact ⟨0, Nat.zero_le _, rfl, kept_refl _, fun q hq => absurd hq (Nat.not_lt_zero q)⟩
    case round =>
      obtain ⟨j, hj, rfl, hk, HQ⟩ := hrel
      by_cases hlt : j < xs.length
      · have hlt2 : j < ys.length := by have := HL.out; omega
        obtain ⟨ad, rfl, hc1⟩ := (hx.kept hk).at_ hlt
        obtain ⟨bd, rfl, hc2⟩ := (hy.kept hk).at_ hlt2
        by_cases he : nth xs j = nth ys j
        · have h1 : (nth xs j == nth ys j) = true := by simp [he]
          have h2 : (nth xs j != nth ys j) = false := by simp [he]
          have HE := Lib.hid he
          clear he
          go_wp2_with fail
          go_quiet (fail)
          go_wp2_with fail
          go_roundw
          case rel => exact ⟨j + 1, by omega, by go_num, kept_drewN hk _, fun q hq => by
            rcases Nat.lt_or_ge q j with h | h
            · exact HQ q h
            · obtain rfl : q = j := by omega
              exact HE.out⟩
          case measure => simp [intOf]; omega
        · have h1 : (nth xs j == nth ys j) = false := by simp [he]
          have h2 : (nth xs j != nth ys j) = true := by simp [he]
          have hs := sameL_false he
          have HS := Lib.hid hs
          clear he hs
          go_wp2_with fail
          go_quiet (fail)
          go_wp2_with fail
          go_ret
          exact ⟨by rw [HS.out]; rfl, kept_drewN hk _⟩
      · obtain rfl : j = xs.length := by omega
        have hs : sameL xs ys = true := sameL_true HL.out HQ
        have HS := Lib.hid hs
        clear hs
        go_wp2_with fail
        go_ret
        exact ⟨by rw [HS.out]; rfl, hk⟩
  · have hlb : ((xs.length : Int) == (ys.length : Int)) = false := by rw [beq_eq_false_iff_ne]; omega
    have hlc : ((xs.length : Int) != (ys.length : Int)) = true := by rw [bne_iff_ne]; omega
    have hs : sameL xs ys = false := by simp only [sameL, decide_eq_false_iff_not]; exact fun e => hl (by rw [e])
    rw [hs]
    clear hs hl
    go_enter Try.func17, Try.ntmps17
    go_wp2_with fail
    go_ret
    exact ⟨rfl, kept_refl _⟩
end Go.Proofs.Ytobailigphmopaa
