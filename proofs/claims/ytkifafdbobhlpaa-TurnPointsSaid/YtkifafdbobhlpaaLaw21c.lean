/-
  Layer 21's statements: the walks.
-/
import Derived.Test.YtkifafdbobhlpaaLaw21
import Derived.Test.YtkifafdbobhlpaaTurnP
import Derived.Laws.AppendOwnNone
namespace Go.Proofs.Ytkifafdbobhlpaa
open Go.RowKit BG
attribute [local go_sem ↓] Go.wp_at_zero Go.wp_at_succ
set_option linter.unusedVariables false

theorem rd_cells {w : World} {k : IntKind} {ad : Addr} {xs : List Int} (h : Rd k w (some ad) xs) : ∀ (j : Nat) u, (xs.map (Value.int k))[j]? = some u → w.cell? (ad.add j) = some u := by
  intro j u hj
  rw [List.getElem?_map, Option.map_eq_some_iff] at hj
  obtain ⟨z, hz, rfl⟩ := hj
  have hlt := (List.getElem?_eq_some_iff.1 hz).1
  obtain ⟨ad', e, hc⟩ := h.2 (by omega)
  cases e
  rw [hc j hlt, nth_lt hlt, (List.getElem?_eq_some_iff.1 hz).2]
theorem cells_one (k : IntKind) (xs : List Int) : ∀ u ∈ xs.map (Value.int k), u.oneCell' = true := by
  intro u hu
  rw [List.mem_map] at hu
  obtain ⟨z, _, rfl⟩ := hu
  rfl
theorem sameL_refl (xs : List Int) : sameL xs xs = true := by simp [sameL]
set_option maxHeartbeats 2000000 in
theorem turnPoints_w (A : Option Addr) (cap : Nat) (xs : List Int) (n : Nat) (hl : xs.length = 2 * n) (k : Int) (k1 : -9223372036854775808 ≤ k) (k2 : k ≤ 9223372036854775807) (hreach : n * 16 ≤ 140737488351232) (hnone : A = none → n = 0 ∧ cap = 0) (w : World) (hr : Rd .i64 w A xs) : Calls Try.prog 5 #[.slice A n cap, .int .i64 k] w (Ret (.bool true) w) := by
  have hm := hr.1
  obtain ⟨i0, hi, hz0, hz1, hz2⟩ := info_parts info_p2
  by_cases h : n ≤ 1000
  · have h0 : (w.alloc (.cells #[] 35)).ownsRow w.heap.size 35 2 (.slice (some ⟨w.heap.size, 0, none⟩) 0 0) 0 [] := World.ownsRow_lit w #[] 0 (Nat.le_refl _) (by decide) rfl
    cases A with
    | none =>
      obtain ⟨rfl, rfl⟩ := hnone rfl
      obtain rfl : xs = [] := List.length_eq_zero_iff.1 (by omega)
      go_enter Try.func5, Try.ntmps5
      go_wp2_with (at_builtin; refine wpList_append_own_none rfl _ _ 26 rfl w.heap.size 35 i0 2 Try.underlying26 hi (.slice (some ⟨w.heap.size, 0, none⟩) 0 0) 0 [] rfl h0 rfl ?_)
      have hown : Own2 w.heap.size (w.alloc (.cells #[] 35)) (.slice (some ⟨w.heap.size, 0, none⟩) 0 0) 0 [] := h0
      have hk1 := kept_alloc (kept_refl w) (.cells #[] 35)
      generalize w.alloc (.cells #[] 35) = w1 at *
      clear h0
      have C1 := points_c none 0 [] 0 hl k k1 k2 hreach w1 (hr.kept hk1)
      go_wp2_with fail
      refine C1.mono ?_
      rintro e w2 ⟨v2, rfl, hown2, hk2⟩
      clear C1
      have hk12 := kept_trans hk1 hk2
      have C2 := rpoints_c none 0 [] 0 hl k k1 k2 hreach w2 (hr.kept hk12)
      go_wp2_with fail
      refine C2.mono ?_
      rintro e w3 ⟨v3, rfl, hown3, hk3⟩
      clear C2
      have hN : (if boxOk [] 0 then 0 else 0) ≤ 1000 := by split <;> omega
      generalize hNN : (if boxOk [] 0 then 0 else 0) = N at *
      generalize boxOk [] 0 = ok at *
      clear hNN
      obtain ⟨A2, c2, rfl, l2, r2⟩ := (hown2.kept hk3).rd (by omega)
      obtain ⟨A3, c3, rfl, l3, r3⟩ := hown3.rd (by omega)
      have r1 := Rd.nil .i64 w3 (some ⟨w.heap.size, 0, none⟩)
      have hk := kept_trans hk12 hk3
      clear hk1 hk2 hk12 hk3 hown hown2 hown3
      go_wp2_with fail
      refine (alive21_c _).mono ?_
      rintro e w4 ⟨rfl, hk4⟩
      have S1 := samep_c A2 A3 c2 c3 _ _ N N l2 l3 w4 (r2.kept hk4) (r3.kept hk4)
      rw [sameL_refl] at S1
      go_wp2_with fail
      refine S1.mono ?_
      rintro e w5 ⟨rfl, hk5⟩
      clear S1
      have hk45 := kept_trans hk4 hk5
      have S2 := samep_c none (some ⟨w.heap.size, 0, none⟩) 0 0 _ _ 0 0 hl hl w5 (hr.kept (kept_trans hk hk45)) (r1.kept hk45)
      rw [sameL_refl] at S2
      go_wp2_with fail
      refine S2.mono ?_
      rintro e w6 ⟨rfl, hk6⟩
      clear S2
      go_wp2_with fail
      go_ret
      exact ⟨rfl, kept_trans hk (kept_trans hk45 hk6)⟩
    | some ad =>
      go_enter Try.func5, Try.ntmps5
      go_wp2_with (at_builtin; refine wpList_append_own _ rfl _ _ 26 rfl w.heap.size 35 i0 (.agg #[.int .i64 0, .int .i64 0]) 2 16 Try.underlying26 hi hz0 hz1 hz2 rfl (by decide) (.slice (some ⟨w.heap.size, 0, none⟩) 0 0) 0 [] rfl h0 ad n cap (xs.map (Value.int .i64)) rfl (by rw [List.length_map]; omega) (rd_cells (hr.kept (kept_alloc (kept_refl w) _))) (cells_one _ _) (by unfold maxLen; omega) (by omega) (by simp) ?_)
      intro v w1 hown1 hgrow _
      try rw [List.nil_append] at hown1
      try rw [Nat.zero_add] at hown1
      have hown : Own2 w.heap.size w1 v n xs := hown1
      have hk1 := kept_grown (kept_alloc (kept_refl w) (.cells #[] 35)) h0 (Nat.le_refl _) hgrow
      clear hown1 hgrow h0 hnone
      have C1 := points_c (some ad) cap xs n hl k k1 k2 hreach w1 (hr.kept hk1)
      go_wp2_with fail
      refine C1.mono ?_
      rintro e w2 ⟨v2, rfl, hown2, hk2⟩
      clear C1
      have hk12 := kept_trans hk1 hk2
      have C2 := rpoints_c (some ad) cap xs n hl k k1 k2 hreach w2 (hr.kept hk12)
      go_wp2_with fail
      refine C2.mono ?_
      rintro e w3 ⟨v3, rfl, hown3, hk3⟩
      clear C2
      have hN : (if boxOk xs n then n else 0) ≤ 1000 := by split <;> omega
      generalize hNN : (if boxOk xs n then n else 0) = N at *
      generalize boxOk xs n = ok at *
      clear hNN
      obtain ⟨A2, c2, rfl, l2, r2⟩ := (hown2.kept hk3).rd (by omega)
      obtain ⟨A3, c3, rfl, l3, r3⟩ := hown3.rd (by omega)
      obtain ⟨A1, c1, rfl, l1, r1⟩ := (hown.kept (kept_trans hk2 hk3)).rd (by omega)
      have hk := kept_trans hk12 hk3
      clear hk1 hk2 hk12 hk3 hown hown2 hown3
      go_wp2_with fail
      refine (alive21_c _).mono ?_
      rintro e w4 ⟨rfl, hk4⟩
      have S1 := samep_c A2 A3 c2 c3 _ _ N N l2 l3 w4 (r2.kept hk4) (r3.kept hk4)
      rw [sameL_refl] at S1
      go_wp2_with fail
      refine S1.mono ?_
      rintro e w5 ⟨rfl, hk5⟩
      clear S1
      have hk45 := kept_trans hk4 hk5
      have S2 := samep_c (some ad) A1 cap c1 _ _ n n hl hl w5 (hr.kept (kept_trans hk hk45)) (r1.kept hk45)
      rw [sameL_refl] at S2
      go_wp2_with fail
      refine S2.mono ?_
      rintro e w6 ⟨rfl, hk6⟩
      clear S2
      go_wp2_with fail
      go_ret
      exact ⟨rfl, kept_trans hk (kept_trans hk45 hk6)⟩
  · have h' : 1000 < n := by omega
    clear h
    go_enter Try.func5, Try.ntmps5
    go_wp2_with fail
    refine (alive21_c _).mono ?_
    rintro e w1 ⟨rfl, hk1⟩
    go_wp2_with fail
    go_ret
    exact ⟨rfl, hk1⟩
end Go.Proofs.Ytkifafdbobhlpaa
