/-
  Layer 4 (conv): sizes, the greatest, what is amiss.
-/
import Derived.Test.YthjedgniedpkfaaConvP
import Derived.Test.YthjedgniedpkfaaWSame
import Derived.Test.YthjedgniedpkfaaTail
namespace Go.Proofs.Ythjedgniedpkfaa
open Go.RowKit BG
attribute [local go_sem ↓] Go.wp_at_zero Go.wp_at_succ
set_option linter.unusedVariables false

def szv (n : Int) : Int := if szOk n then ((2 ^ szL n : Nat) : Int) else 0
section
variable {P : Program} (w : World)
theorem run_max_at (ts : Array TypeId) (t : TypeId) (k k' : IntKind) (x y : Int) : (Builtin.max_ ts t #[.int k x, .int k' y]).run P w = .ok (.int k (max x y)) w := by
  rw [Go.run_max_int2, show (if y > x then y else x) = max x y by split <;> omega]
theorem run_min_at (ts : Array TypeId) (t : TypeId) (k k' : IntKind) (x y : Int) : (Builtin.min_ ts t #[.int k x, .int k' y]).run P w = .ok (.int k (min x y)) w := by
  rw [Go.run_min_int2, show (if y < x then y else x) = min x y by split <;> omega]
end
attribute [local go_sem ↓] run_min_at run_max_at
theorem size_c (n : Int) (w : World) : Calls Try.prog 48 #[.int .i64 n] w (Ret (.tuple #[.int .i64 (szv n), .bool (szOk n)]) w) := by
  cases h : szOk n
  · have hv : szv n = 0 := by unfold szv; rw [h]; rfl
    rw [hv]
    have hc : n < 1 ∨ (1 ≤ n ∧ 4096 < n) := by
      have : ¬ (1 ≤ n ∧ n ≤ 4096) := of_decide_eq_false h
      omega
    clear h hv
    rcases hc with c | ⟨c, d⟩
    · go_enter Try.func48, Try.ntmps48
      go_wp2_with fail
      exact bodyPost_ret (v := .tuple #[.int .i64 0, .bool false]) (by simp [results, Try.results48, go_sem]) rfl ⟨rfl, kept_refl _⟩
    · have c' : ¬ n < 1 := by omega
      go_enter Try.func48, Try.ntmps48
      go_wp2_with fail
      exact bodyPost_ret (v := .tuple #[.int .i64 0, .bool false]) (by simp [results, Try.results48, go_sem]) rfl ⟨rfl, kept_refl _⟩
  · obtain ⟨h1, h2, h3⟩ := szL_spec h
    obtain ⟨c, d⟩ : 1 ≤ n ∧ n ≤ 4096 := of_decide_eq_true h
    have hv : szv n = ((2 ^ szL n : Nat) : Int) := by unfold szv; rw [h]; rfl
    rw [hv]
    generalize szL n = L at *
    have H2 := Lib.hid h2
    have H3 := Lib.hid h3
    have c1 : decide (n < 1) = false := decide_eq_false (by omega)
    have d1 : decide (4096 < n) = false := decide_eq_false (by omega)
    clear h hv h2 h3
    go_enter Try.func48, Try.ntmps48
    go_wp2_with fail
    go_loopw [4] (fun sv wr => ∃ s : Nat, s ≤ L ∧ sv = .int .i64 ((2 ^ s : Nat) : Int) ∧ Kept w wr) (fun sv _ => n.toNat - (intOf sv).toNat)
    case atStart => exact ⟨0, Nat.zero_le _, by simp, kept_refl _⟩
    case round =>
      obtain ⟨s, hs, rfl, hk⟩ := hrel
      by_cases hlt : s < L
      · have h3 := H3.out s hlt
        have hp : ((2 ^ (s + 1) : Nat) : Int) = ((2 ^ s : Nat) : Int) * 2 := by rw [Nat.pow_succ, Int.natCast_mul]; rfl
        have h0 : 0 < ((2 ^ s : Nat) : Int) := by have := Nat.two_pow_pos s; omega
        have HP := Lib.hid hp
        clear hp
        generalize hN : ((2 ^ s : Nat) : Int) = N at *
        go_wp2_with fail
        exact ⟨⟨s + 1, by omega, by rw [HP.out], hk⟩, by simp [intOf]; omega⟩
      · obtain rfl : s = L := by omega
        have h4 : ¬ ((2 ^ s : Nat) : Int) < n := by have := H2.out; omega
        generalize hN : ((2 ^ s : Nat) : Int) = N at *
        go_wp2_with fail
        exact bodyPost_ret (v := .tuple #[.int .i64 N, .bool true]) (by simp [results, Try.results48, go_sem]) rfl ⟨rfl, hk⟩
theorem greatest_c (A : Option Addr) (cap : Nat) (xs : List Int) (hu : U64 xs) (w : World) (hr : Rd .u64 w A xs) : Calls Try.prog 25 #[.slice A xs.length cap] w (Ret (.int .u64 (greatest xs)) w) := by
  have hm := hr.1
  unfold greatest
  generalize hn : xs.length = n at *
  go_enter Try.func25, Try.ntmps25
  go_wp2_with fail
  go_loopw [3, 8] (fun o i wr => ∃ q : Nat, q ≤ n ∧ i = .int .i64 q ∧ o = .int .u64 (grT (nth xs) q) ∧ Kept w wr) (fun _ i _ => n - (intOf i).toNat)
  case atStart => exact ⟨0, Nat.zero_le _, rfl, rfl, kept_refl _⟩
  case round =>
    obtain ⟨q, hq, rfl, rfl, hk⟩ := hrel
    by_cases hlt : q < n
    · obtain ⟨ad, rfl, c0⟩ := (hr.kept hk).at_ (j := q) (by omega)
      have hs : max (grT (nth xs) q) (nth xs q) = grT (nth xs) (q + 1) := rfl
      generalize hg' : grT (nth xs) (q + 1) = g' at *
      have HG := Lib.hid hg'
      clear hg'
      generalize grT (nth xs) q = g at *
      generalize nth xs q = x at *
      have HS := Lib.hid hs
      clear hs
      go_wp2_with fail
      exact ⟨⟨q + 1, by omega, by go_num, by rw [HS.out, HG.out], hk⟩, by simp [intOf]; omega⟩
    · obtain rfl : q = n := by omega
      go_wp2_with fail
      go_ret
      exact ⟨rfl, hk⟩
theorem rgreatest_c (A : Option Addr) (cap : Nat) (xs : List Int) (hu : U64 xs) (w : World) (hr : Rd .u64 w A xs) : Calls Try.prog 28 #[.slice A xs.length cap] w (Ret (.int .u64 (greatest xs)) w) := by
  have hm := hr.1
  unfold greatest
  generalize hn : xs.length = n at *
  go_enter Try.func28, Try.ntmps28
  go_wp2_with fail
  go_loopw [3, 4] (fun o i wr => ∃ q : Nat, q ≤ n ∧ i = .int .i64 q ∧ o = .int .u64 (grT (nth xs) q) ∧ Kept w wr) (fun _ i _ => n - (intOf i).toNat)
  case atStart => exact ⟨0, Nat.zero_le _, rfl, rfl, kept_refl _⟩
  case round =>
    obtain ⟨q, hq, rfl, rfl, hk⟩ := hrel
    by_cases hlt : q < n
    · obtain ⟨ad, rfl, c0⟩ := (hr.kept hk).at_ (j := q) (by omega)
      by_cases hc : grT (nth xs) q < nth xs q
      · have hs : nth xs q = grT (nth xs) (q + 1) := by show _ = max (grT (nth xs) q) (nth xs q); omega
        generalize hg' : grT (nth xs) (q + 1) = g' at *
        have HG := Lib.hid hg'
        clear hg'
        generalize grT (nth xs) q = g at *
        generalize nth xs q = x at *
        have HS := Lib.hid hs
        clear hs
        go_wp2_with fail
        exact ⟨⟨q + 1, by omega, by go_num, by rw [HS.out, HG.out], hk⟩, by simp [intOf]; omega⟩
      · have hs : grT (nth xs) q = grT (nth xs) (q + 1) := by show _ = max (grT (nth xs) q) (nth xs q); omega
        generalize hg' : grT (nth xs) (q + 1) = g' at *
        have HG := Lib.hid hg'
        clear hg'
        generalize grT (nth xs) q = g at *
        generalize nth xs q = x at *
        have HS := Lib.hid hs
        clear hs
        go_wp2_with fail
        exact ⟨⟨q + 1, by omega, by go_num, by rw [HS.out, HG.out], hk⟩, by simp [intOf]; omega⟩
    · obtain rfl : q = n := by omega
      go_wp2_with fail
      go_ret
      exact ⟨rfl, hk⟩
def ovr (a b : Int) : Bool := decide (a ≠ 0 ∧ 18446744073709551615 / a < b)
theorem over_c (a b : Int) (ha : 0 ≤ a) (hb : 0 ≤ b) (w : World) : Calls Try.prog 56 #[.int .u64 a, .int .u64 b] w (Ret (.bool (ovr a b)) w) := by
  by_cases h0 : a = 0
  · subst h0
    rw [show ovr 0 b = false from decide_eq_false fun h => h.1 rfl]
    go_enter Try.func56, Try.ntmps56
    go_wp2_with fail
    go_ret
    exact ⟨rfl, kept_refl _⟩
  · have hd : (18446744073709551615 : Int).tdiv a = 18446744073709551615 / a := Int.tdiv_eq_ediv_of_nonneg (by decide)
    have hv : ovr a b = decide (18446744073709551615 / a < b) := by unfold ovr; simp [h0]
    rw [hv]
    have hd0 : 0 ≤ 18446744073709551615 / a := Int.ediv_nonneg (by decide) ha
    have hd1 : 18446744073709551615 / a ≤ 18446744073709551615 := Int.ediv_le_self _ (by decide)
    generalize (18446744073709551615 : Int) / a = d at *
    clear hv
    go_enter Try.func56, Try.ntmps56
    go_wp2_with fail
    go_ret
    exact ⟨by simp [h0], kept_refl _⟩
end Go.Proofs.Ythjedgniedpkfaa
