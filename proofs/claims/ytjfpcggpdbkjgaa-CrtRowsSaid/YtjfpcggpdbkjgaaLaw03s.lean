/-
  Layer 3: sums and products of residues.
-/
import Derived.Test.YtjfpcggpdbkjgaaLaw03
import Derived.BigRegion
namespace Go.Proofs.Ytjfpcggpdbkjgaa
open Go.RowKit BG
attribute [local go_sem ↓] Go.wp_at_zero Go.wp_at_succ
set_option linter.unusedVariables false

theorem sumMk_set (f : Nat → Int) {q : Nat} (hq : q < 3) : (mk 3 fun j => if j < q then f j else 0).set q (f q) = mk 3 fun j => if j < q + 1 then f j else 0 := by
  have : q = 0 ∨ q = 1 ∨ q = 2 := by omega
  rcases this with rfl | rfl | rfl <;> simp [mk, List.range_succ]
theorem rowKept3 {base n size : Nat} {e : TypeId} {v : Value} {xs : List Value} {w w1 : World} (h : w.ownsRow base e size v n xs) (hk : Kept w w1) : w1.ownsRow base e size v n xs :=
  World.ownsRow.kept h (⟨hk.os, hk.tape, hk.output, hk.size, fun i hi _ => hk.block i hi⟩ : w.grownBy w1 none) (by cases v.ownBlock <;> simp)
set_option maxRecDepth 100000 in
set_option maxHeartbeats 4000000 in
theorem crtSums_w (a b : Int) (ha : 0 ≤ a) (ha2 : a ≤ 18446744073709551615) (hb : 0 ≤ b) (hb2 : b ≤ 18446744073709551615) (w : World) : Calls Try.prog 12 #[.int .u64 a, .int .u64 b] w (Ret (.bool true) w) := by
  have fa := fun k : Nat => of_bd (k : Int) a
  have fb := fun k : Nat => of_bd (k : Int) b
  go_enter Try.func12, Try.ntmps12
  go_wp2_with fail
  refine (parts_c a ha _).mono ?_
  rintro e w1 ⟨rfl, hk1⟩
  go_wp2_with fail
  refine (parts_c b hb _).mono ?_
  rintro e w2 ⟨rfl, hk2⟩
  have hk := kept_trans hk1 hk2
  clear hk1 hk2
  unfold arr3
  have hP := blk_alloc (blk_new w2 (.cells #[.int .u64 (of 0 a), .int .u64 (of 1 a), .int .u64 (of 2 a)] 35)) (.cells #[.int .u64 (of 0 b), .int .u64 (of 1 b), .int .u64 (of 2 b)] 35)
  have hQ := blk_new1 w2 (.cells #[.int .u64 (of 0 a), .int .u64 (of 1 a), .int .u64 (of 2 a)] 35) (.cells #[.int .u64 (of 0 b), .int .u64 (of 1 b), .int .u64 (of 2 b)] 35)
  have KP := kept_trans hk (kept_alloc (kept_alloc (kept_refl w2) (.cells #[.int .u64 (of 0 a), .int .u64 (of 1 a), .int .u64 (of 2 a)] 35)) (.cells #[.int .u64 (of 0 b), .int .u64 (of 1 b), .int .u64 (of 2 b)] 35))
  have hp : ∀ k : Nat, k < 3 → ((w2.alloc (.cells #[.int .u64 (of 0 a), .int .u64 (of 1 a), .int .u64 (of 2 a)] 35)).alloc (.cells #[.int .u64 (of 0 b), .int .u64 (of 1 b), .int .u64 (of 2 b)] 35)).cell? ⟨w2.heap.size, k, none⟩ = some (.int .u64 (of (k : Int) a)) := by
    intro k hk
    rw [blk_cell hP k]
    match k, hk with
    | 0, _ => rfl
    | 1, _ => rfl
    | 2, _ => rfl
  have hq : ∀ k : Nat, k < 3 → ((w2.alloc (.cells #[.int .u64 (of 0 a), .int .u64 (of 1 a), .int .u64 (of 2 a)] 35)).alloc (.cells #[.int .u64 (of 0 b), .int .u64 (of 1 b), .int .u64 (of 2 b)] 35)).cell? ⟨w2.heap.size + 1, k, none⟩ = some (.int .u64 (of (k : Int) b)) := by
    intro k hk
    rw [blk_cell hQ k]
    match k, hk with
    | 0, _ => rfl
    | 1, _ => rfl
    | 2, _ => rfl
  clear hP hQ hk
  have hsz : ((w2.alloc (.cells #[.int .u64 (of 0 a), .int .u64 (of 1 a), .int .u64 (of 2 a)] 35)).alloc (.cells #[.int .u64 (of 0 b), .int .u64 (of 1 b), .int .u64 (of 2 b)] 35)).heap.size = w2.heap.size + 1 + 1 := by simp
  go_wp2_with fail
  generalize (w2.alloc (.cells #[.int .u64 (of 0 a), .int .u64 (of 1 a), .int .u64 (of 2 a)] 35)).alloc (.cells #[.int .u64 (of 0 b), .int .u64 (of 1 b), .int .u64 (of 2 b)] 35) = wp at *
  have OS := World.ownsRow.alloc (World.ownsRow_lit (base := wp.heap.size) (e := 35) (size := 3) wp #[.int .u64 0, .int .u64 0, .int .u64 0] 1 (Nat.le_refl _) (by decide) rfl) (.cells #[.int .u64 0, .int .u64 0, .int .u64 0] 35)
  have OM := World.ownsRow_lit (base := wp.heap.size) (e := 35) (size := 3) (wp.alloc (.cells #[.int .u64 0, .int .u64 0, .int .u64 0] 35)) #[.int .u64 0, .int .u64 0, .int .u64 0] 1 (by simp) (by decide) rfl
  have KW0 := kept_alloc (kept_alloc (kept_refl wp) (.cells #[.int .u64 0, .int .u64 0, .int .u64 0] 35)) (.cells #[.int .u64 0, .int .u64 0, .int .u64 0] 35)
  rw [World.size_alloc] at OM
  rw [hsz] at OS OM
  generalize hH : w2.heap.size = H at *
  clear hH
  go_loopw [18] (fun i wr => ∃ k : Nat, k ≤ 3 ∧ i = .int .i64 k ∧ wr.ownsRow (H + 1 + 1) 35 3 (.slice (some ⟨H + 1 + 1, 0, none⟩) 1 1) 1 ((mk 3 fun j => if j < k then of (j : Int) a + of (j : Int) b else 0).map (Value.int .u64)) ∧ wr.ownsRow (H + 1 + 1) 35 3 (.slice (some ⟨H + 1 + 1 + 1, 0, none⟩) 1 1) 1 ((mk 3 fun j => if j < k then of (j : Int) a * of (j : Int) b else 0).map (Value.int .u64)) ∧ Kept wp wr) (fun i _ => 3 - (intOf i).toNat)
  case atStart => exact ⟨0, Nat.zero_le _, rfl, OS, OM, KW0⟩
  case round =>
    clear OS OM KW0
    obtain ⟨k, hk, rfl, os, om, kw⟩ := hrel
    by_cases hlt : k < 3
    · have c0 := kept_cell kw (hp k hlt)
      have c1 := kept_cell kw (hq k hlt)
      have A := fa k
      have B := fb k
      have SS : (mk 3 fun j => if j < k then of (j : Int) a + of (j : Int) b else 0).set k (of (k : Int) a + of (k : Int) b) = mk 3 fun j => if j < k + 1 then of (j : Int) a + of (j : Int) b else 0 := sumMk_set (fun j : Nat => of (j : Int) a + of (j : Int) b) hlt
      have SM : (mk 3 fun j => if j < k then of (j : Int) a * of (j : Int) b else 0).set k (of (k : Int) a * of (k : Int) b) = mk 3 fun j => if j < k + 1 then of (j : Int) a * of (j : Int) b else 0 := sumMk_set (fun j : Nat => of (j : Int) a * of (j : Int) b) hlt
      have m0 := Int.mul_nonneg A.1 B.1
      have m1 := Int.mul_le_mul A.2 B.2 B.1 (by decide)
      have HSS := Lib.hid SS
      have HSM := Lib.hid SM
      clear SS SM
      generalize hx : of (k : Int) a = x at *
      generalize hy : of (k : Int) b = y at *
      generalize hxy : x * y = N at *
      have d0 := World.ownsRow.cellAt os k (by omega)
      rw [List.getElem?_map, List.getElem?_eq_getElem (by rw [mk_length]; omega), Option.map_some] at d0
      have f0 := World.ownsRow.frozenAt os k
      have d1 := World.ownsRow.cellAt om k (by omega)
      rw [List.getElem?_map, List.getElem?_eq_getElem (by rw [mk_length]; omega), Option.map_some] at d1
      have f1 := World.ownsRow.frozenAt om k
      go_wp2_with fail
      go_big_region
      have S1 := World.ownsRow.stored os k (.int .u64 (x + y))
      rw [← List.map_set, HSS.out] at S1
      have om1 := World.ownsRow.kept om S1.2 (.inr (by simp [Value.ownBlock]))
      have S2 := World.ownsRow.stored om1 k (.int .u64 N)
      rw [← List.map_set, HSM.out] at S2
      have os2 := World.ownsRow.kept S1.1 S2.2 (.inr (by simp [Value.ownBlock]))
      have kw2 := kept_grown (kept_grown kw os (by omega) S1.2) om1 (by omega) S2.2
      clear os om kw d0 f0 d1 f1 om1 S1 c0 c1
      have om3 := rowKept3 S2.1 (kept_drew (kept_refl _))
      have os3 := rowKept3 os2 (kept_drew (kept_refl _))
      have kw3 := kept_drew kw2
      clear S2 os2 kw2
      generalize World.drew _ = w5 at *
      go_wp2_with fail
      exact ⟨⟨k + 1, by omega, by go_num, os3, om3, kw3⟩, by simp [intOf]; omega⟩
    · obtain rfl : k = 3 := by omega
      have s0 := World.ownsRow.cellAt os 0 (by decide)
      replace s0 : wr.cell? ⟨H + 1 + 1, 0, none⟩ = some (.int .u64 (of 0 a + of 0 b)) := s0
      have s1 := World.ownsRow.cellAt os 1 (by decide)
      replace s1 : wr.cell? ⟨H + 1 + 1, 1, none⟩ = some (.int .u64 (of 1 a + of 1 b)) := s1
      have s2 := World.ownsRow.cellAt os 2 (by decide)
      replace s2 : wr.cell? ⟨H + 1 + 1, 2, none⟩ = some (.int .u64 (of 2 a + of 2 b)) := s2
      have m0 := World.ownsRow.cellAt om 0 (by decide)
      replace m0 : wr.cell? ⟨H + 1 + 1 + 1, 0, none⟩ = some (.int .u64 (of 0 a * of 0 b)) := m0
      have m1 := World.ownsRow.cellAt om 1 (by decide)
      replace m1 : wr.cell? ⟨H + 1 + 1 + 1, 1, none⟩ = some (.int .u64 (of 1 a * of 1 b)) := m1
      have m2 := World.ownsRow.cellAt om 2 (by decide)
      replace m2 : wr.cell? ⟨H + 1 + 1 + 1, 2, none⟩ = some (.int .u64 (of 2 a * of 2 b)) := m2
      have A0 := of_bd 0 a
      have B0 := of_bd 0 b
      have N0 : 0 ≤ of 0 a * of 0 b ∧ True := ⟨Int.mul_nonneg A0.1 B0.1, trivial⟩
      have A1 := of_bd 1 a
      have B1 := of_bd 1 b
      have N1 : 0 ≤ of 1 a * of 1 b ∧ True := ⟨Int.mul_nonneg A1.1 B1.1, trivial⟩
      have A2 := of_bd 2 a
      have B2 := of_bd 2 b
      have N2 : 0 ≤ of 2 a * of 2 b ∧ True := ⟨Int.mul_nonneg A2.1 B2.1, trivial⟩
      have J1 := join_c (of 0 a + of 0 b) (of 1 a + of 1 b) (of 2 a + of 2 b) (by omega) (by omega) (by omega)
      have J2 := join_c (of 0 a * of 0 b) (of 1 a * of 1 b) (of 2 a * of 2 b) N0.1 N1.1 N2.1
      have CA : ∀ k, Cong k (of k a + of k b) (a + b) := fun k => (cong_of k a).add (cong_of k b)
      have CM : ∀ k, Cong k (of k a * of k b) (a * b) := fun k => (cong_of k a).mul (cong_of k b)
      have JS : a + b ≤ 18446744073709551615 → joinv (of 0 a + of 0 b) (of 1 a + of 1 b) (of 2 a + of 2 b) = a + b ∧ fits (of 0 a + of 0 b) (of 1 a + of 1 b) (of 2 a + of 2 b) = true := fun h => ⟨joinv_of (by omega) h (CA 0) (CA 1) (CA 2), fits_of (by omega) h (CA 0) (CA 1) (CA 2)⟩
      have hab0 : 0 ≤ a * b := Int.mul_nonneg ha hb
      have hab1 : a < 4294967296 → b < 4294967296 → a * b ≤ 18446744073709551615 := fun h1 h2 => by
        have := Int.mul_le_mul (show a ≤ 4294967295 by omega) (show b ≤ 4294967295 by omega) hb (by decide)
        omega
      have JM : a * b ≤ 18446744073709551615 → joinv (of 0 a * of 0 b) (of 1 a * of 1 b) (of 2 a * of 2 b) = a * b ∧ fits (of 0 a * of 0 b) (of 1 a * of 1 b) (of 2 a * of 2 b) = true := fun h => ⟨joinv_of hab0 h (CM 0) (CM 1) (CM 2), fits_of hab0 h (CM 0) (CM 1) (CM 2)⟩
      have HJS := Lib.hid JS
      have HJM := Lib.hid JM
      have HAB1 := Lib.hid hab1
      clear JS JM CA CM hab1 fa fb hp hq os om
      unfold arr3 at J1 J2
      generalize joinv (of 0 a + of 0 b) (of 1 a + of 1 b) (of 2 a + of 2 b) = xs at *
      generalize fits (of 0 a + of 0 b) (of 1 a + of 1 b) (of 2 a + of 2 b) = is at *
      generalize joinv (of 0 a * of 0 b) (of 1 a * of 1 b) (of 2 a * of 2 b) = ym at *
      generalize fits (of 0 a * of 0 b) (of 1 a * of 1 b) (of 2 a * of 2 b) = was at *
      generalize hN : a * b = N at *
      generalize of 0 a + of 0 b = sa at *
      generalize of 1 a + of 1 b = sb at *
      generalize of 2 a + of 2 b = sc at *
      generalize of 0 a * of 0 b = ma at *
      generalize of 1 a * of 1 b = mb at *
      generalize of 2 a * of 2 b = mc at *
      have hk := kept_trans KP kw
      clear kw KP
      have HN := Lib.hid hN
      by_cases hs : a + b ≤ 18446744073709551615
      · obtain ⟨e1, e2⟩ := HJS.out hs
        subst e1 e2
        by_cases h1 : a < 4294967296
        · by_cases h2 : b < 4294967296
          · obtain ⟨e3, e4⟩ := HJM.out (HAB1.out h1 h2)
            have hb3 := HAB1.out h1 h2
            subst e4
            go_wp2_with fail
            refine (J1 _).mono ?_
            rintro e w3 ⟨rfl, hk3⟩
            replace m0 := kept_cell hk3 m0
            replace m1 := kept_cell hk3 m1
            replace m2 := kept_cell hk3 m2
            go_wp2_with fail
            refine (J2 _).mono ?_
            rintro e w4 ⟨rfl, hk4⟩
            go_wp2_with fail
            refine (alive03_c _).mono ?_
            rintro e w5 ⟨rfl, hk5⟩
            go_wp2_with fail
            go_ret
            exact ⟨rfl, kept_trans hk (kept_trans hk3 (kept_trans hk4 hk5))⟩
          · go_wp2_with fail
            refine (J1 _).mono ?_
            rintro e w3 ⟨rfl, hk3⟩
            replace m0 := kept_cell hk3 m0
            replace m1 := kept_cell hk3 m1
            replace m2 := kept_cell hk3 m2
            go_wp2_with fail
            refine (J2 _).mono ?_
            rintro e w4 ⟨rfl, hk4⟩
            go_wp2_with fail
            refine (alive03_c _).mono ?_
            rintro e w5 ⟨rfl, hk5⟩
            go_wp2_with fail
            go_ret
            exact ⟨rfl, kept_trans hk (kept_trans hk3 (kept_trans hk4 hk5))⟩
        · go_wp2_with fail
          refine (J1 _).mono ?_
          rintro e w3 ⟨rfl, hk3⟩
          replace m0 := kept_cell hk3 m0
          replace m1 := kept_cell hk3 m1
          replace m2 := kept_cell hk3 m2
          go_wp2_with fail
          refine (J2 _).mono ?_
          rintro e w4 ⟨rfl, hk4⟩
          go_wp2_with fail
          refine (alive03_c _).mono ?_
          rintro e w5 ⟨rfl, hk5⟩
          go_wp2_with fail
          go_ret
          exact ⟨rfl, kept_trans hk (kept_trans hk3 (kept_trans hk4 hk5))⟩
      · by_cases h1 : a < 4294967296
        · have h2 : ¬ b < 4294967296 := by omega
          go_wp2_with fail
          refine (J1 _).mono ?_
          rintro e w3 ⟨rfl, hk3⟩
          replace m0 := kept_cell hk3 m0
          replace m1 := kept_cell hk3 m1
          replace m2 := kept_cell hk3 m2
          go_wp2_with fail
          refine (J2 _).mono ?_
          rintro e w4 ⟨rfl, hk4⟩
          go_wp2_with fail
          refine (alive03_c _).mono ?_
          rintro e w5 ⟨rfl, hk5⟩
          go_wp2_with fail
          go_ret
          exact ⟨rfl, kept_trans hk (kept_trans hk3 (kept_trans hk4 hk5))⟩
        · go_wp2_with fail
          refine (J1 _).mono ?_
          rintro e w3 ⟨rfl, hk3⟩
          replace m0 := kept_cell hk3 m0
          replace m1 := kept_cell hk3 m1
          replace m2 := kept_cell hk3 m2
          go_wp2_with fail
          refine (J2 _).mono ?_
          rintro e w4 ⟨rfl, hk4⟩
          go_wp2_with fail
          refine (alive03_c _).mono ?_
          rintro e w5 ⟨rfl, hk5⟩
          go_wp2_with fail
          go_ret
          exact ⟨rfl, kept_trans hk (kept_trans hk3 (kept_trans hk4 hk5))⟩
end Go.Proofs.Ytjfpcggpdbkjgaa
