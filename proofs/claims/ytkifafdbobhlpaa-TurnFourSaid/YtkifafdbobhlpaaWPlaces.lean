/-
  beagleref21.Same and beagleref07.Places by their contracts.
-/
import Derived.Test.YtkifafdbobhlpaaWRPts
namespace Go.Proofs.Ytkifafdbobhlpaa
open Go.RowKit BG
attribute [local go_sem ↓] Go.wp_at_zero Go.wp_at_succ
set_option linter.unusedVariables false
/-- The two lists are the same. -/
def sameL (xs ys : List Int) : Bool := decide (xs = ys)
theorem sameL_true {xs ys : List Int} (hl : xs.length = ys.length) (h : ∀ j, j < xs.length → nth xs j = nth ys j) : sameL xs ys = true := by
  simp only [sameL, decide_eq_true_eq]; exact nth_ext hl h
theorem sameL_false {xs ys : List Int} {j : Nat} (h : nth xs j ≠ nth ys j) : sameL xs ys = false := by
  simp only [sameL, decide_eq_false_iff_not]; exact fun e => h (by rw [e])
theorem places_c (A B : Option Addr) (ca cb : Nat) (xs ys : List Int) (w : World) (hx : Rd .i64 w A xs) (hy : Rd .i64 w B ys) :
    Calls Try.prog 19 #[.slice A xs.length ca, .slice B ys.length cb] w (Ret (.bool (sameL xs ys)) w) := by
  have hm := hx.1
  by_cases hl : xs.length = ys.length
  · have HL := Lib.hid hl
    have hlb : ((xs.length : Int) == (ys.length : Int)) = true := by simp [hl]
    have hlc : ((xs.length : Int) != (ys.length : Int)) = false := by simp [hl]
    clear hl
    go_enter Try.func19, Try.ntmps19
    go_wp2_with fail
    go_loopw [5] (fun i wr => ∃ j : Nat, j ≤ xs.length ∧ i = .int .i64 j ∧ Kept w wr ∧ Hid (∀ q, q < j → nth xs q = nth ys q)) (fun i _ => xs.length - (intOf i).toNat)
    case atStart => exact ⟨0, Nat.zero_le _, rfl, kept_refl _, fun q hq => absurd hq (Nat.not_lt_zero q)⟩
    case round =>
      obtain ⟨j, hj, rfl, hk, HQ⟩ := hrel
      by_cases hlt : j < xs.length
      · have hlt2 : j < ys.length := by have := HL.out; omega
        obtain ⟨ad, rfl, hc1⟩ := (hx.kept hk).at_ hlt
        obtain ⟨bd, rfl, hc2⟩ := (hy.kept hk).at_ hlt2
        by_cases he : nth xs j = nth ys j
        · have h1 : (nth xs j == nth ys j) = true := by simp [he]
          have h2 : (nth xs j != nth ys j) = false := by simp [he]
          have HE := Lib.hid he
          clear he
          go_wp2_with fail
          go_quiet (fail)
          go_wp2_with fail
          go_roundw
          case rel => exact ⟨j + 1, by omega, by go_num, kept_drewN hk _, fun q hq => by
            rcases Nat.lt_or_ge q j with h | h
            · exact HQ q h
            · obtain rfl : q = j := by omega
              exact HE.out⟩
          case measure => simp [intOf]; omega
        · have h1 : (nth xs j == nth ys j) = false := by simp [he]
          have h2 : (nth xs j != nth ys j) = true := by simp [he]
          have hs := sameL_false he
          have HS := Lib.hid hs
          clear he hs
          go_wp2_with fail
          go_quiet (fail)
          go_wp2_with fail
          go_ret
          exact ⟨by rw [HS.out]; rfl, kept_drewN hk _⟩
      · obtain rfl : j = xs.length := by omega
        have hs : sameL xs ys = true := sameL_true HL.out HQ
        have HS := Lib.hid hs
        clear hs
        go_wp2_with fail
        go_ret
        exact ⟨by rw [HS.out]; rfl, hk⟩
  · have hlb : ((xs.length : Int) == (ys.length : Int)) = false := by rw [beq_eq_false_iff_ne]; omega
    have hlc : ((xs.length : Int) != (ys.length : Int)) = true := by rw [bne_iff_ne]; omega
    have hs : sameL xs ys = false := by simp only [sameL, decide_eq_false_iff_not]; exact fun e => hl (by rw [e])
    rw [hs]
    clear hs hl
    go_enter Try.func19, Try.ntmps19
    go_wp2_with fail
    go_ret
    exact ⟨rfl, kept_refl _⟩
theorem samep_c (A B : Option Addr) (ca cb : Nat) (xs ys : List Int) (n m : Nat) (hxl : xs.length = 2 * n) (hyl : ys.length = 2 * m) (w : World) (hx : Rd .i64 w A xs) (hy : Rd .i64 w B ys) :
    Calls Try.prog 16 #[.slice A n ca, .slice B m cb] w (Ret (.bool (sameL xs ys)) w) := by
  have hm := hx.1
  by_cases hl : n = m
  · have HL := Lib.hid hl
    have hlb : ((n : Int) == (m : Int)) = true := by simp [hl]
    have hlc : ((n : Int) != (m : Int)) = false := by simp [hl]
    clear hl
    go_enter Try.func16, Try.ntmps16
    go_wp2_with fail
    go_loopw [5] (fun i wr => ∃ j : Nat, j ≤ n ∧ i = .int .i64 j ∧ Kept w wr ∧ Hid (∀ q, q < j → X xs q = X ys q ∧ Y xs q = Y ys q)) (fun i _ => n - (intOf i).toNat)
    case atStart => exact ⟨0, Nat.zero_le _, rfl, kept_refl _, fun q hq => absurd hq (Nat.not_lt_zero q)⟩
    case round =>
      obtain ⟨j, hj, rfl, hk, HQ⟩ := hrel
      by_cases hlt : j < n
      · have hlt2 : j < m := by have := HL.out; omega
        obtain ⟨ad, rfl, c0, c1⟩ := (hx.kept hk).point hxl hlt
        obtain ⟨bd, rfl, d0, d1⟩ := (hy.kept hk).point hyl hlt2
        have q := eq2 (X xs j) (Y xs j) (X ys j) (Y ys j)
        by_cases he : X xs j = X ys j ∧ Y xs j = Y ys j
        · have hb : ([X xs j, Y xs j] == [X ys j, Y ys j]) = true := by simp [he]
          rw [hb] at q
          have HE := Lib.hid he
          clear he hb
          go_wp2_with fail
          go_quiet (fail)
          go_wp2_with fail
          go_roundw
          case rel => exact ⟨j + 1, by omega, by go_num, kept_drewN hk _, fun q hq => by
            rcases Nat.lt_or_ge q j with h | h
            · exact HQ q h
            · obtain rfl : q = j := by omega
              exact HE.out⟩
          case measure => simp [intOf]; omega
        · have hb : ([X xs j, Y xs j] == [X ys j, Y ys j]) = false := by rw [beq_eq_false_iff_ne]; intro h; simp at h; exact he h
          rw [hb] at q
          have hs : sameL xs ys = false := by
            simp only [sameL, decide_eq_false_iff_not]; intro e; exact he (by rw [e]; exact ⟨rfl, rfl⟩)
          have HS := Lib.hid hs
          clear he hs hb
          go_wp2_with fail
          go_quiet (fail)
          go_wp2_with fail
          go_ret
          exact ⟨by rw [HS.out]; rfl, kept_drewN hk _⟩
      · obtain rfl : j = n := by omega
        have hs : sameL xs ys = true := by
          refine sameL_true (by have := HL.out; omega) fun q hq => ?_
          have h := HQ (q / 2) (by omega)
          rcases Nat.mod_two_eq_zero_or_one q with e | e
          · have := h.1; unfold X at this; rwa [show q / 2 * 2 = q by omega] at this
          · have := h.2; unfold Y at this; rwa [show q / 2 * 2 + 1 = q by omega] at this
        have HS := Lib.hid hs
        clear hs
        go_wp2_with fail
        go_ret
        exact ⟨by rw [HS.out]; rfl, hk⟩
  · have hlb : ((n : Int) == (m : Int)) = false := by rw [beq_eq_false_iff_ne]; omega
    have hlc : ((n : Int) != (m : Int)) = true := by rw [bne_iff_ne]; omega
    have hs : sameL xs ys = false := by simp only [sameL, decide_eq_false_iff_not]; intro e; rw [e] at hxl; omega
    rw [hs]
    clear hs hl
    go_enter Try.func16, Try.ntmps16
    go_wp2_with fail
    go_ret
    exact ⟨rfl, kept_refl _⟩
end Go.Proofs.Ytkifafdbobhlpaa
