/-
  Layer 2's statements: the walks.
-/
import Derived.Test.YtkielaonclabbaaLaw02
import Derived.Laws.AppendOwnNone
namespace Go.Proofs.Ytkielaonclabbaa
open Go.RowKit BG
attribute [local go_sem ↓] Go.wp_at_zero Go.wp_at_succ
set_option linter.unusedVariables false

theorem rd_cells {w : World} {k : IntKind} {ad : Addr} {xs : List Int} (h : Rd k w (some ad) xs) : ∀ (j : Nat) u, (xs.map (Value.int k))[j]? = some u → w.cell? (ad.add j) = some u := by
  intro j u hj
  rw [List.getElem?_map, Option.map_eq_some_iff] at hj
  obtain ⟨z, hz, rfl⟩ := hj
  have hlt := (List.getElem?_eq_some_iff.1 hz).1
  obtain ⟨ad', e, hc⟩ := h.2 (by omega)
  cases e
  rw [hc j hlt, nth_lt hlt, (List.getElem?_eq_some_iff.1 hz).2]
theorem cells_one (k : IntKind) (xs : List Int) : ∀ u ∈ xs.map (Value.int k), u.oneCell' = true := by
  intro u hu
  rw [List.mem_map] at hu
  obtain ⟨z, _, rfl⟩ := hu
  rfl
theorem amiss_nil (k : Int) : ¬ amiss k (([] : List Int).length : Nat) = 0 := fun h => by have := amiss_pos (n := 0) h; omega
set_option maxHeartbeats 4000000 in
theorem nttBack_w (k : Int) (A : Option Addr) (cap : Nat) (xs : List Int) (hu : U64 xs) (hreach : xs.length * 8 ≤ 140737488351232) (hnone : A = none → cap = 0) (w : World) (hr : Rd .u64 w A xs) : Calls Try.prog 6 #[.int .i64 k, .slice A xs.length cap] w (Ret (.bool true) w) := by
  have hm := hr.1
  obtain ⟨i1, hif1, hy0, hy1, hy2⟩ := info_parts info_u64
  have h0 : (w.alloc (.cells #[] 32)).ownsRow w.heap.size 32 1 (.slice (some ⟨w.heap.size, 0, none⟩) 0 0) 0 [] := World.ownsRow_lit w #[] 0 (Nat.le_refl _) (by decide) rfl
  cases A with
  | none =>
    have hc0 := hnone rfl
    obtain rfl : xs = [] := by
      cases xs with
      | nil => rfl
      | cons x xs => obtain ⟨ad, e, _⟩ := hr.2 (by simp); cases e
    subst hc0
    have hz := amiss_nil k
    have X1 := forward_c k none 0 [] hu
    have Y1 := inverse_c k none 0 [] hu
    have hlx : (fwdv k []).length = 0 := by rw [fwdv_length, if_neg hz]
    have hly : (invv k []).length = 0 := by rw [invv_length, if_neg hz]
    generalize amiss k (([] : List Int).length : Nat) = e at *
    go_enter Try.func6, Try.ntmps6
    go_wp2_with (at_builtin; refine wpList_append_own_none rfl _ _ 26 rfl w.heap.size 32 i1 1 Try.underlying26 hif1 (.slice (some ⟨w.heap.size, 0, none⟩) 0 0) 0 [] rfl h0 rfl ?_)
    have hk1 := kept_alloc (kept_refl w) (.cells #[] 32)
    generalize w.alloc (.cells #[] 32) = w1 at *
    clear h0
    go_wp2_with fail
    refine (X1 _ (hr.kept hk1)).mono ?_
    rintro e w2 ⟨v2, rfl, hown2, hk2⟩
    go_wp2_with fail
    refine (Y1 _ (hr.kept (kept_trans hk1 hk2))).mono ?_
    rintro e w3 ⟨v3, rfl, hown3, hk3⟩
    obtain ⟨A2, c2, rfl, _, _, _⟩ := hown2.rd
    obtain ⟨A3, c3, rfl, _, _, _⟩ := hown3.rd
    rw [hlx, hly]
    clear hown2 hown3 X1 Y1 hlx hly
    go_wp2_with fail
    refine (alive02_c _).mono ?_
    rintro e w4 ⟨rfl, hk4⟩
    go_wp2_with fail
    go_ret
    exact ⟨rfl, kept_trans hk1 (kept_trans hk2 (kept_trans hk3 hk4))⟩
  | some ad =>
    clear hnone
    have X1 := forward_c k (some ad) cap xs hu
    have Y1 := inverse_c k (some ad) cap xs hu
    by_cases hz : amiss k xs.length = 0
    · have hlx : (fwdv k xs).length = xs.length := by rw [fwdv_length, if_pos hz]
      have hly : (invv k xs).length = xs.length := by rw [invv_length, if_pos hz]
      have P1 := fun A c => inverse_c k A c (fwdv k xs) (u64_fwd k xs)
      have Q1 := fun A c => forward_c k A c (invv k xs) (u64_inv k xs)
      rw [hlx, hz, inv_fwd hz] at P1
      rw [hly, hz, fwd_inv hz] at Q1
      rw [hz] at X1 Y1
      have hml : (mk xs.length fun j => of k (nth xs j)).length = xs.length := mk_length _ _
      have hmn := fun j (hj : j < xs.length) => (nth_mk hj : nth (mk xs.length fun j => of k (nth xs j)) j = of k (nth xs j))
      generalize mk xs.length (fun j => of k (nth xs j)) = ms at *
      generalize fwdv k xs = fs at *
      generalize invv k xs = gs at *
      clear hz
      go_enter Try.func6, Try.ntmps6
      go_wp2_with (at_builtin; refine wpList_append_own _ rfl _ _ 26 rfl w.heap.size 32 i1 (.int .u64 0) 1 8 Try.underlying26 hif1 hy0 hy1 hy2 rfl (by decide) (.slice (some ⟨w.heap.size, 0, none⟩) 0 0) 0 [] rfl h0 ad xs.length cap (xs.map (Value.int .u64)) rfl (by rw [List.length_map]; omega) (rd_cells (hr.kept (kept_alloc (kept_refl w) _))) (cells_one _ _) (by unfold maxLen; omega) (by omega) (by simp) ?_)
      intro v w1 hown1 hgrow _
      try rw [List.nil_append] at hown1
      try rw [Nat.zero_add] at hown1
      have hown : Own .u64 32 w.heap.size w1 v xs := hown1
      have hk1 := kept_grown (kept_alloc (kept_refl w) (.cells #[] 32)) h0 (Nat.le_refl _) hgrow
      clear hown1 hgrow h0
      go_wp2_with fail
      refine (X1 _ (hr.kept hk1)).mono ?_
      rintro e w2 ⟨v2, rfl, hown2, hk2⟩
      go_wp2_with fail
      refine (Y1 _ (hr.kept (kept_trans hk1 hk2))).mono ?_
      rintro e w3 ⟨v3, rfl, hown3, hk3⟩
      obtain ⟨A2, c2, rfl, _, _, r2⟩ := hown2.rd
      obtain ⟨A3, c3, rfl, _, _, r3⟩ := hown3.rd
      rw [hlx, hly]
      clear hown2 hown3 X1 Y1
      have P1 := P1 A2 c2 w3 (r2.kept hk3)
      have Q1 := Q1 A3 c3
      clear hlx hly
      go_wp2_with fail
      refine P1.mono ?_
      rintro e w4 ⟨v4, rfl, hown4, hk4⟩
      clear P1
      go_wp2_with fail
      refine (Q1 _ (r3.kept hk4)).mono ?_
      rintro e w5 ⟨v5, rfl, hown5, hk5⟩
      clear Q1
      obtain ⟨A4, c4, rfl, _, _, r4⟩ := (hown4.kept hk5).rd
      obtain ⟨A5, c5, rfl, _, _, r5⟩ := hown5.rd
      have hkg := kept_trans hk2 (kept_trans hk3 (kept_trans hk4 hk5))
      have hk := kept_trans hk1 hkg
      replace hown := hown.kept hkg
      obtain ⟨A1, c1, rfl, _, _, r1⟩ := hown.rd
      rw [hml]
      clear hown4 hown5 hk1 hk2 hk3 hk4 hk5 hkg hown r2 r3
      go_wp2_with fail
      go_loopw [84] (fun i wr => ∃ q : Nat, q ≤ xs.length ∧ i = .int .i64 q ∧ Kept w5 wr) (fun i _ => xs.length - (intOf i).toNat)
      case atStart => exact ⟨0, Nat.zero_le _, rfl, kept_refl _⟩
      case round =>
        obtain ⟨q, hq, rfl, hkx⟩ := hrel
        by_cases hlt : q < xs.length
        · obtain ⟨bd, rfl, c0⟩ := (r4.kept hkx).at_ (j := q) (by omega)
          obtain ⟨cd, rfl, c1⟩ := (r5.kept hkx).at_ (j := q) (by omega)
          obtain ⟨ad', e, c2⟩ := ((hr.kept hk).kept hkx).at_ (j := q) (by omega)
          cases e
          rw [hmn q hlt] at c0 c1
          have O := rof_c k (nth xs q) (hu q)
          generalize of k (nth xs q) = y at *
          generalize nth xs q = x at *
          go_wp2_with fail
          have ks_c0 := fun s => kw_cell s c0
          have ks_c1 := fun s => kw_cell s c1
          have ks_c2 := fun s => kw_cell s c2
          refine wp_region_kept (by kernel_rfl) (by kernel_rfl) ?_
          repeat (first | go_big_quiet_skip | (go_big_quiet_want; go_big_quiet_op; first | go_big_quiet_on | (apply Exists.intro; refine ⟨fun s => ?_, ?_⟩; (first | (go_at_call 18; exact call_kept (O _))); go_big_quiet_on)))
          refine wpQuiet_nil ?_
          rintro w7 ⟨⟨_, hk7⟩, rfl⟩
          clear ks_c0 ks_c1 ks_c2 c0 c1 c2
          go_wp2_with fail
          exact ⟨⟨q + 1, by omega, by go_num, kept_trans hkx hk7⟩, by simp [intOf]; omega⟩
        · obtain rfl : q = xs.length := by omega
          go_wp2_with fail
          refine (alive02_c _).mono ?_
          rintro e w7 ⟨rfl, hk7⟩
          have S := same_c (some ad) A1 cap c1 xs xs w7 ((hr.kept hk).kept (kept_trans hkx hk7)) (r1.kept (kept_trans hkx hk7))
          rw [sameL_refl] at S
          go_wp2_with fail
          refine (S).mono ?_
          rintro e w8 ⟨rfl, hk8⟩
          go_wp2_with fail
          go_ret
          exact ⟨rfl, kept_trans hk (kept_trans hkx (kept_trans hk7 hk8))⟩
    · have hlx : (fwdv k xs).length = 0 := by rw [fwdv_length, if_neg hz]
      have hly : (invv k xs).length = 0 := by rw [invv_length, if_neg hz]
      generalize amiss k xs.length = e at *
      go_enter Try.func6, Try.ntmps6
      go_wp2_with (at_builtin; refine wpList_append_own _ rfl _ _ 26 rfl w.heap.size 32 i1 (.int .u64 0) 1 8 Try.underlying26 hif1 hy0 hy1 hy2 rfl (by decide) (.slice (some ⟨w.heap.size, 0, none⟩) 0 0) 0 [] rfl h0 ad xs.length cap (xs.map (Value.int .u64)) rfl (by rw [List.length_map]; omega) (rd_cells (hr.kept (kept_alloc (kept_refl w) _))) (cells_one _ _) (by unfold maxLen; omega) (by omega) (by simp) ?_)
      intro v w1 hown1 hgrow _
      try rw [List.nil_append] at hown1
      try rw [Nat.zero_add] at hown1
      have hown : Own .u64 32 w.heap.size w1 v xs := hown1
      have hk1 := kept_grown (kept_alloc (kept_refl w) (.cells #[] 32)) h0 (Nat.le_refl _) hgrow
      clear hown1 hgrow h0
      go_wp2_with fail
      refine (X1 _ (hr.kept hk1)).mono ?_
      rintro e w2 ⟨v2, rfl, hown2, hk2⟩
      go_wp2_with fail
      refine (Y1 _ (hr.kept (kept_trans hk1 hk2))).mono ?_
      rintro e w3 ⟨v3, rfl, hown3, hk3⟩
      obtain ⟨A2, c2, rfl, _, _, _⟩ := hown2.rd
      obtain ⟨A3, c3, rfl, _, _, _⟩ := hown3.rd
      rw [hlx, hly]
      clear hown2 hown3 X1 Y1 hlx hly
      go_wp2_with fail
      refine (alive02_c _).mono ?_
      rintro e w4 ⟨rfl, hk4⟩
      go_wp2_with fail
      go_ret
      exact ⟨rfl, kept_trans hk1 (kept_trans hk2 (kept_trans hk3 hk4))⟩
end Go.Proofs.Ytkielaonclabbaa
