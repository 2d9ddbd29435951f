/-
  Layer 2 (ntt): logs, what is amiss, and the bits the other way round.
-/
import Derived.Test.YtobailigphmopaaWRes
import Derived.Test.YtobailigphmopaaSl
import Derived.Test.YtobailigphmopaaDft
namespace Go.Proofs.Ytobailigphmopaa
open Go.RowKit BG
attribute [local go_sem ↓] Go.wp_at_zero Go.wp_at_succ
set_option linter.unusedVariables false

/-- Is a number a power of two, 2^12 at most? -/
def hasLog (n : Int) : Bool := (List.range 13).any fun l => n == ((2 ^ l : Nat) : Int)
/-- Its log. -/
def lgv (n : Int) : Nat := ((List.range 13).find? fun l => n == ((2 ^ l : Nat) : Int)).getD 0
theorem log_pow (l : Nat) (h : l ≤ 12) : hasLog ((2 ^ l : Nat) : Int) = true ∧ lgv ((2 ^ l : Nat) : Int) = l := by
  have : l = 0 ∨ l = 1 ∨ l = 2 ∨ l = 3 ∨ l = 4 ∨ l = 5 ∨ l = 6 ∨ l = 7 ∨ l = 8 ∨ l = 9 ∨ l = 10 ∨ l = 11 ∨ l = 12 := by omega
  rcases this with rfl | rfl | rfl | rfl | rfl | rfl | rfl | rfl | rfl | rfl | rfl | rfl | rfl <;> exact ⟨by decide, by decide⟩
theorem log_none {n : Int} (h : hasLog n = false) : (∀ l : Nat, l ≤ 12 → n ≠ ((2 ^ l : Nat) : Int)) ∧ lgv n = 0 := by
  have h1 : ∀ l : Nat, l < 13 → (n == ((2 ^ l : Nat) : Int)) = false := by
    intro l hl
    unfold hasLog at h
    rw [List.any_eq_false] at h
    have := h l (List.mem_range.2 hl)
    simpa using this
  refine ⟨fun l hl => by have := h1 l (by omega); simpa using this, ?_⟩
  unfold lgv
  rw [List.find?_eq_none.2 fun l hl => by rw [h1 l (List.mem_range.1 hl)]; decide]
  rfl
theorem log_some {n : Int} (h : hasLog n = true) : lgv n ≤ 12 ∧ n = ((2 ^ lgv n : Nat) : Int) := by
  unfold hasLog at h
  rw [List.any_eq_true] at h
  obtain ⟨l, hl, he⟩ := h
  have hl := List.mem_range.1 hl
  have e : n = ((2 ^ l : Nat) : Int) := by simpa using he
  have := (log_pow l (by omega)).2
  rw [← e] at this
  rw [this]
  exact ⟨by omega, e⟩
theorem shl_at (l : Nat) (h : l ≤ 12) : wrap64 ((2 : Int) ^ l) = ((2 ^ l : Nat) : Int) := by
  have : l = 0 ∨ l = 1 ∨ l = 2 ∨ l = 3 ∨ l = 4 ∨ l = 5 ∨ l = 6 ∨ l = 7 ∨ l = 8 ∨ l = 9 ∨ l = 10 ∨ l = 11 ∨ l = 12 := by omega
  rcases this with rfl | rfl | rfl | rfl | rfl | rfl | rfl | rfl | rfl | rfl | rfl | rfl | rfl <;> (unfold wrap64; decide)
abbrev Ltuple (n : Int) : Value := .tuple #[.int .i64 ((lgv n : Nat) : Int), .bool (hasLog n)]
theorem log_c (n : Int) (w : World) : Calls Try.prog 69 #[.int .i64 n] w (Ret (Ltuple n) w) := by
  unfold Ltuple
  go_enter Try.func69, Try.ntmps69
  go_wp2_with fail
  go_loopw [5] (fun i wr => ∃ l : Nat, l ≤ 13 ∧ i = .int .i64 l ∧ Kept w wr ∧ Hid (∀ q : Nat, q < l → n ≠ ((2 ^ q : Nat) : Int))) (fun i _ => 13 - (intOf i).toNat)
  case atStart => exact ⟨0, Nat.zero_le _, rfl, kept_refl _, fun q hq => absurd hq (Nat.not_lt_zero q)⟩
  case round =>
    obtain ⟨l, hl, rfl, hk, HQ⟩ := hrel
    by_cases hlt : l < 13
    · have hs := shl_at l (by omega)
      have hp := log_pow l (by omega)
      generalize hN : ((2 ^ l : Nat) : Int) = N at *
      have HN := Lib.hid hN
      clear hN
      by_cases he : n = N
      · subst he
        rw [hp.1, hp.2]
        clear hp
        go_wp2_with fail
        exact bodyPost_ret (v := .tuple #[.int .i64 l, .bool true]) (by simp [results, Try.results69, go_sem]) rfl ⟨rfl, hk⟩
      · clear hp
        have HE := Lib.hid he
        have hb : ¬ n = N := he
        clear he
        go_wp2_with fail
        exact ⟨⟨l + 1, by omega, by go_num, hk, fun q hq => by
          rcases Nat.lt_or_ge q l with h | h
          · exact HQ q h
          · obtain rfl : q = l := by omega
            rw [HN.out]; exact HE.out⟩, by simp [intOf]; omega⟩
    · obtain rfl : l = 13 := by omega
      have hno : hasLog n = false := by
        cases h : hasLog n
        · rfl
        · obtain ⟨h1, h2⟩ := log_some h
          exact absurd h2 (HQ _ (by omega))
      have HNO := Lib.hid hno
      clear hno
      go_wp2_with fail
      exact bodyPost_ret (v := .tuple #[.int .i64 0, .bool false]) (by simp [results, Try.results69, go_sem]) rfl ⟨by rw [HNO.out, (log_none HNO.out).2]; rfl, hk⟩
theorem rlog_c (n : Int) (w : World) : Calls Try.prog 61 #[.int .i64 n] w (Ret (Ltuple n) w) := by
  unfold Ltuple
  go_enter Try.func61, Try.ntmps61
  go_wp2_with fail
  go_loopw [4, 5] (fun p i wr => ∃ l : Nat, l ≤ 13 ∧ i = .int .i64 l ∧ p = .int .i64 ((2 ^ l : Nat) : Int) ∧ Kept w wr ∧ Hid (∀ q : Nat, q < l → n ≠ ((2 ^ q : Nat) : Int))) (fun _ i _ => 13 - (intOf i).toNat)
  case atStart => exact ⟨0, Nat.zero_le _, rfl, by simp, kept_refl _, fun q hq => absurd hq (Nat.not_lt_zero q)⟩
  case round =>
    obtain ⟨l, hl, rfl, rfl, hk, HQ⟩ := hrel
    by_cases hlt : l < 13
    · have hp := log_pow l (by omega)
      have hpow : ((2 ^ (l + 1) : Nat) : Int) = 2 * ((2 ^ l : Nat) : Int) := by rw [Nat.pow_succ, Int.natCast_mul]; omega
      have hsm : 0 < ((2 ^ l : Nat) : Int) ∧ ((2 ^ l : Nat) : Int) ≤ 4096 := by
        have h1 := Nat.two_pow_pos l
        have h2 : 2 ^ l ≤ 2 ^ 12 := Nat.pow_le_pow_right (by decide) (by omega)
        omega
      generalize hN : ((2 ^ l : Nat) : Int) = N at *
      have HN := Lib.hid hN
      have HP := Lib.hid hpow
      clear hN hpow
      by_cases he : n = N
      · subst he
        rw [hp.1, hp.2]
        clear hp
        go_wp2_with fail
        exact bodyPost_ret (v := .tuple #[.int .i64 l, .bool true]) (by simp [results, Try.results61, go_sem]) rfl ⟨rfl, hk⟩
      · clear hp
        have HE := Lib.hid he
        have hb : ¬ N = n := fun h => he h.symm
        clear he
        go_wp2_with fail
        exact ⟨⟨l + 1, by omega, by go_num, by rw [HP.out], hk, fun q hq => by
          rcases Nat.lt_or_ge q l with h | h
          · exact HQ q h
          · obtain rfl : q = l := by omega
            rw [HN.out]; exact HE.out⟩, by simp [intOf]; omega⟩
    · obtain rfl : l = 13 := by omega
      have hno : hasLog n = false := by
        cases h : hasLog n
        · rfl
        · obtain ⟨h1, h2⟩ := log_some h
          exact absurd h2 (HQ _ (by omega))
      have HNO := Lib.hid hno
      clear hno
      go_wp2_with fail
      exact bodyPost_ret (v := .tuple #[.int .i64 0, .bool false]) (by simp [results, Try.results61, go_sem]) rfl ⟨by rw [HNO.out, (log_none HNO.out).2]; rfl, hk⟩
/-- What is amiss. -/
def amiss (k n : Int) : Int := if pr k = 0 then 20 else if hasLog n then 0 else 21
theorem check_c (k n : Int) (w : World) : Calls Try.prog 68 #[.int .i64 k, .int .i64 n] w (Ret (.int .i64 (amiss k n)) w) := by
  unfold amiss
  have P := prime_c k
  by_cases hp : pr k = 0
  · rw [if_pos hp]
    rw [hp] at P
    clear hp
    go_enter Try.func68, Try.ntmps68
    go_wp2_with fail
    refine (P _).mono ?_
    rintro e w1 ⟨rfl, hk1⟩
    go_wp2_with fail
    go_ret
    exact ⟨rfl, hk1⟩
  · rw [if_neg hp]
    have hb := (pr_range k).1
    generalize pr k = p at *
    have L := log_c n
    unfold Ltuple at L
    generalize hasLog n = b at *
    generalize lgv n = l at *
    cases b
    · simp only [Bool.false_eq_true, if_false]
      go_enter Try.func68, Try.ntmps68
      go_wp2_with fail
      refine (P _).mono ?_
      rintro e w1 ⟨rfl, hk1⟩
      go_wp2_with fail
      refine (L _).mono ?_
      rintro e w2 ⟨rfl, hk2⟩
      go_wp2_with fail
      go_ret
      exact ⟨rfl, kept_trans hk1 hk2⟩
    · simp only [if_true]
      go_enter Try.func68, Try.ntmps68
      go_wp2_with fail
      refine (P _).mono ?_
      rintro e w1 ⟨rfl, hk1⟩
      go_wp2_with fail
      refine (L _).mono ?_
      rintro e w2 ⟨rfl, hk2⟩
      go_wp2_with fail
      go_ret
      exact ⟨rfl, kept_trans hk1 hk2⟩
end Go.Proofs.Ytobailigphmopaa
