/-
  Texts of one claim, joined: ClsP, WCls4, WRes.
-/
import Derived.Test.YtdejablhpljdfaaGreatC02
import Derived.Test.YtdejablhpljdfaaGreatC01
namespace Go.Proofs.YtdejablhpljdfaaGreat
set_option linter.unusedVariables false
theorem bitv_nat {y : Int} (h : 0 ≤ y) (k : Nat) : bitv y k = y.toNat.testBit k := by
  obtain ⟨n, rfl⟩ := Int.eq_ofNat_of_zero_le h
  unfold bitv
  have e : ((n : Int) / 2 ^ k % 2) = ((n / 2 ^ k % 2 : Nat) : Int) := by
    rw [Int.natCast_emod, Int.natCast_ediv, Int.natCast_pow]; rfl
  rw [e, Int.toNat_natCast, Nat.testBit_eq_decide_div_mod_eq]
  by_cases h1 : n / 2 ^ k % 2 = 1
  · rw [h1]; rfl
  · rw [decide_eq_false h1, beq_eq_false_iff_ne]; omega
theorem bit_ext {y z : Int} (hy : u64b y) (hz : u64b z) (h : ∀ k, k < 64 → bitv y k = bitv z k) : y = z := by
  have e : y.toNat = z.toNat := by
    refine Nat.eq_of_testBit_eq fun k => ?_
    by_cases hk : k < 64
    · rw [← bitv_nat hy.1, ← bitv_nat hz.1, h k hk]
    · have h1 : y.toNat < 2 ^ k := Nat.lt_of_lt_of_le (by have := hy.1; have := hy.2; omega : y.toNat < 2 ^ 64) (Nat.pow_le_pow_right (by decide) (by omega))
      have h2 : z.toNat < 2 ^ k := Nat.lt_of_lt_of_le (by have := hz.1; have := hz.2; omega : z.toNat < 2 ^ 64) (Nat.pow_le_pow_right (by decide) (by omega))
      rw [Nat.testBit_lt_two_pow h1, Nat.testBit_lt_two_pow h2]
  have := hy.1
  have := hz.1
  omega
theorem bit_orb {z : Int} (h : u64b z) (k j : Nat) : bitv (orb z k) j = (bitv z j || decide (j = k)) := by
  rw [bitv_nat h.1, bitv_nat (show 0 ≤ orb z k from Int.natCast_nonneg _)]
  unfold orb
  rw [Int.toNat_natCast, Nat.testBit_or, Nat.testBit_two_pow]
  congr 1
  by_cases e : k = j
  · rw [decide_eq_true e, decide_eq_true e.symm]
  · rw [decide_eq_false e, decide_eq_false fun h => e h.symm]
theorem wd_setw (x : Cl) {i j : Nat} (hi : i < 4) (hj : j < 4) (z : Int) : (x.setw i z).wd j = if j = i then z else x.wd j := by
  have a : i = 0 ∨ i = 1 ∨ i = 2 ∨ i = 3 := by omega
  have b : j = 0 ∨ j = 1 ∨ j = 2 ∨ j = 3 := by omega
  rcases a with rfl | rfl | rfl | rfl <;> rcases b with rfl | rfl | rfl | rfl <;> rfl
theorem has_with {x : Cl} (hx : x.ok) {b b' : Nat} (hb : b < 256) (hb' : b' < 256) : hasv (withv x b) b' = (hasv x b' || decide (b' = b)) := by
  unfold hasv withv
  rw [wd_setw x (by omega) (by omega)]
  by_cases e : b' / 64 = b / 64
  · rw [if_pos e, bit_orb (wd_ok hx _), ← e]
    congr 1
    by_cases h : b' = b
    · rw [decide_eq_true h, decide_eq_true (by omega)]
    · rw [decide_eq_false h, decide_eq_false (by omega)]
  · rw [if_neg e, decide_eq_false (show ¬ b' = b from fun h => e (by rw [h])), Bool.or_false]
theorem cl_ext {x y : Cl} (hx : x.ok) (hy : y.ok) (h : ∀ b, b < 256 → hasv x b = hasv y b) : x = y := by
  have hw : ∀ i, i < 4 → x.wd i = y.wd i := fun i hi => by
    refine bit_ext (wd_ok hx i) (wd_ok hy i) fun k hk => ?_
    have := h (64 * i + k) (by omega)
    unfold hasv at this
    rwa [show (64 * i + k) / 64 = i by omega, show (64 * i + k) % 64 = k by omega] at this
  obtain ⟨a, b, c, d⟩ := x
  obtain ⟨a', b', c', d'⟩ := y
  have h0 : a = a' := hw 0 (by decide)
  have h1 : b = b' := hw 1 (by decide)
  have h2 : c = c' := hw 2 (by decide)
  have h3 : d = d' := hw 3 (by decide)
  rw [h0, h1, h2, h3]
theorem has_zero (b : Nat) : hasv zerov b = false := by
  have : ∀ i, zerov.wd i = 0 := fun i => by unfold Cl.wd zerov; split <;> (try split) <;> (try split) <;> rfl
  unfold hasv bitv
  rw [this, Int.zero_ediv]
  rfl
theorem bit_max : ∀ k, k < 64 → bitv 18446744073709551615 k = true := by decide +kernel
theorem has_full (b : Nat) : hasv fullv b = true := by
  have : ∀ i, fullv.wd i = 18446744073709551615 := fun i => by unfold Cl.wd fullv; split <;> (try split) <;> (try split) <;> rfl
  unfold hasv
  rw [this]
  exact bit_max _ (by omega)
def onlyv (b : Nat) : Cl := withv zerov b
theorem onlyv_ok (b : Nat) : (onlyv b).ok := withv_ok zerov_ok b
theorem has_only {b b' : Nat} (hb : b < 256) (hb' : b' < 256) : hasv (onlyv b) b' = decide (b' = b) := by
  unfold onlyv
  rw [has_with zerov_ok hb hb', has_zero, Bool.false_or]
def sizev (x : Cl) : Nat := (List.range 256).countP (hasv x)
theorem sizev_zero {x : Cl} (hx : x.ok) : sizev x = 0 ↔ x = zerov := by
  unfold sizev
  rw [List.countP_eq_zero]
  constructor
  · intro h
    refine cl_ext hx zerov_ok fun b hb => ?_
    have := h b (List.mem_range.2 hb)
    rw [has_zero]
    simpa using this
  · rintro rfl b _
    rw [has_zero]; simp
theorem count_range_one {p : Nat → Bool} : ∀ {n b : Nat}, b < n → p b = true → ((List.range n).countP p = 1 ↔ ∀ b', b' < n → p b' = decide (b' = b)) := by
  intro n
  induction n with
  | zero => intro b h; exact absurd h (Nat.not_lt_zero b)
  | succ n ih =>
    intro b hb hp
    rw [List.range_succ, List.countP_append, List.countP_singleton]
    by_cases e : b = n
    · subst e
      rw [if_pos hp]
      constructor
      · intro h b' hb'
        by_cases e' : b' = b
        · subst e'; rw [hp, decide_eq_true rfl]
        · have h0 : (List.range b).countP p = 0 := by omega
          rw [List.countP_eq_zero] at h0
          have := h0 b' (List.mem_range.2 (by omega))
          rw [decide_eq_false e']
          simpa using this
      · intro h
        have h0 : (List.range b).countP p = 0 := by
          rw [List.countP_eq_zero]
          intro b' hb'
          have hlt := List.mem_range.1 hb'
          rw [h b' (by omega), decide_eq_false (by omega)]
          simp
        omega
    · have hbn : b < n := by omega
      have IH := ih hbn hp
      constructor
      · intro h b' hb'
        have hc : 0 < (List.range n).countP p := List.countP_pos_iff.2 ⟨b, List.mem_range.2 hbn, hp⟩
        have hpn : p n = false := by
          cases h1 : p n
          · rfl
          · rw [if_pos h1] at h; omega
        rw [hpn, if_neg (by simp), Nat.add_zero] at h
        by_cases e' : b' = n
        · subst e'; rw [hpn, decide_eq_false (by omega)]
        · exact IH.1 h b' (by omega)
      · intro h
        have hpn : p n = false := by rw [h n (Nat.lt_succ_self n), decide_eq_false (by omega)]
        rw [hpn, if_neg (by simp), Nat.add_zero]
        exact IH.2 fun b' hb' => h b' (by omega)
theorem size_only {x : Cl} (hx : x.ok) {b : Nat} (hb : b < 256) (hp : hasv x b = true) : sizev x = 1 ↔ x = onlyv b := by
  unfold sizev
  rw [count_range_one hb hp]
  constructor
  · intro h
    exact cl_ext hx (onlyv_ok b) fun b' hb' => by rw [h b' hb', has_only hb hb']
  · rintro rfl b' hb'
    exact has_only hb hb'
def sgl (x : Cl) : Nat × Bool :=
  match (List.range 256).find? (hasv x) with
  | some b => if x = onlyv b then (b, true) else (0, false)
  | none => (0, false)
theorem find_at {p : Nat → Bool} {n b : Nat} (hb : b < n) (hp : p b = true) (hm : ∀ j, j < b → p j = false) : (List.range n).find? p = some b := by
  rw [List.find?_range_eq_some]
  exact ⟨hp, List.mem_range.2 hb, fun j hj => by rw [hm j hj]; rfl⟩
theorem find_no {p : Nat → Bool} {n : Nat} (hm : ∀ j, j < n → p j = false) : (List.range n).find? p = none := by
  rw [List.find?_eq_none]
  intro j hj
  rw [hm j (List.mem_range.1 hj)]; simp
theorem sgl_at {x : Cl} {b : Nat} (hb : b < 256) (hp : hasv x b = true) (hm : ∀ j, j < b → hasv x j = false) : sgl x = if x = onlyv b then (b, true) else (0, false) := by
  unfold sgl; rw [find_at hb hp hm]
theorem sgl_no {x : Cl} (hm : ∀ j, j < 256 → hasv x j = false) : sgl x = (0, false) := by
  unfold sgl; rw [find_no hm]
theorem sgl_lt (x : Cl) : (sgl x).1 < 256 := by
  unfold sgl
  cases h : (List.range 256).find? (hasv x) with
  | none => exact (by decide : 0 < 256)
  | some b =>
    have hb := List.mem_range.1 (List.mem_of_find?_eq_some h)
    dsimp only
    split
    · exact hb
    · decide
theorem sgl_bad {x : Cl} (hx : x.ok) (h : sizev x ≠ 1) : sgl x = (0, false) := by
  unfold sgl
  cases hf : (List.range 256).find? (hasv x) with
  | none => rfl
  | some b =>
    have hb := List.mem_range.1 (List.mem_of_find?_eq_some hf)
    have hp := List.find?_some hf
    dsimp only
    rw [if_neg fun e => h ((size_only hx hb hp).2 e)]
theorem sgl_good {x : Cl} (hx : x.ok) (h : sizev x = 1) {b : Nat} (hb : b < 256) (hp : hasv x b = true) : sgl x = (b, true) ∧ x = onlyv b := by
  have hu := (size_only hx hb hp).1 h
  refine ⟨?_, hu⟩
  rw [sgl_at hb hp fun j hj => by rw [hu, has_only hb (by omega)]; exact decide_eq_false (by omega), if_pos hu]
theorem size_some {x : Cl} (h : sizev x ≠ 0) : ∃ b, b < 256 ∧ hasv x b = true := by
  unfold sizev at h
  have : 0 < (List.range 256).countP (hasv x) := by omega
  obtain ⟨b, hb, hp⟩ := List.countP_pos_iff.1 this
  exact ⟨b, List.mem_range.1 hb, hp⟩
end Go.Proofs.YtdejablhpljdfaaGreat
namespace Go.Proofs.YtdejablhpljdfaaGreat
open Go.RowKit BG
attribute [local go_sem ↓] Go.wp_at_zero Go.wp_at_succ
set_option linter.unusedVariables false
set_option maxRecDepth 100000 in
theorem eqCl (x y : Cl) (w : World) : (Op.equalIn 10000 110 x.v y.v).run Tryz.prog w = .ok (decide (x = y)) w := by
  have h := run_equalIn_ints w .u64 9998 110 108 4 Tryz.underlying110 Tryz.underlying108 (fun w => by kernel_rfl) [x.a, x.b, x.c, x.d] [y.a, y.b, y.c, y.d] rfl rfl
  refine h.trans ?_
  congr 1
  obtain ⟨a, b, c, d⟩ := x
  obtain ⟨e, f, g, h'⟩ := y
  by_cases q : (⟨a, b, c, d⟩ : Cl) = ⟨e, f, g, h'⟩
  · cases q; simp
  · rw [decide_eq_false q]
    simp only [beq_eq_false_iff_ne, ne_eq, List.cons.injEq, and_true]
    rintro ⟨rfl, rfl, rfl, rfl⟩
    exact q rfl
set_option maxRecDepth 100000 in
set_option maxHeartbeats 4000000 in
theorem single_c (x : Cl) (hx : x.ok) (w : World) : Calls Tryz.prog 49 #[x.v] w (Ret (.tuple #[.int .u8 ((sgl x).1 : Nat), .bool (sgl x).2]) w) := by
  have hc := blk_new w x.cells
  have ka := kept_alloc (kept_refl w) x.cells
  have H := fun b hb w1 => has_c x hx b hb w1
  have W := fun b hb w1 => with_c zerov zerov_ok b hb w1
  have E := fun b w1 => eqCl x (onlyv b) w1
  have hat := fun b => sgl_at (x := x) (b := b)
  have hno := sgl_no (x := x)
  have HAT := Lib.hid hat
  have HNO := Lib.hid hno
  generalize hh : hasv x = hv at *
  generalize sgl x = sg at *
  generalize hee : (fun b => decide (x = onlyv b)) = ev at *
  have hE : ∀ b, decide (x = onlyv b) = ev b := fun b => by rw [← hee]
  simp only [hE] at E
  have HEV := Lib.hid hE
  clear hat hno hh hee hE
  obtain ⟨x0, x1, x2, x3⟩ := x
  obtain ⟨s1, s2⟩ := sg
  dsimp only [Cl.v, Cl.cells] at hc ka H E
  go_enter Tryz.func49, Tryz.ntmps49
  go_wp2_with fail
  go_loopw [6] (fun i wr => ∃ b : Nat, b ≤ 256 ∧ i = .int .i64 b ∧ wr.heap[w.heap.size]? = some (Cl.cells ⟨x0, x1, x2, x3⟩) ∧ Kept w wr ∧ Hid (∀ j, j < b → hv j = false)) (fun i _ => 256 - (intOf i).toNat)
  case atStart => exact ⟨0, Nat.zero_le _, rfl, hc, ka, fun j hj => absurd hj (Nat.not_lt_zero j)⟩
  case round =>
    clear hc ka
    obtain ⟨b, hb, rfl, hc, hkw, HM⟩ := hrel
    by_cases hlt : b < 256
    · have H := H b hlt
      have W := W b hlt
      have E := E b
      obtain ⟨c0, c1, c2, c3⟩ := cl_cells hc
      dsimp only at c0 c1 c2 c3
      cases hb : hv b
      · rw [hb] at H
        have hm' : ∀ j, j < b + 1 → hv j = false := fun j hj => by
          rcases Nat.lt_or_ge j b with h | h
          · exact HM j h
          · obtain rfl : j = b := by omega
            exact hb
        have HM' := Lib.hid hm'
        clear hm' hb W E HM
        go_wp2_with fail
        refine (H _).mono ?_
        rintro e w1 ⟨rfl, hk1⟩
        replace hc := blk_kept hk1 hc
        replace hkw := kept_trans hkw hk1
        clear c0 c1 c2 c3 H hk1
        go_wp2_with fail
        exact ⟨⟨b + 1, by omega, by go_num, hc, hkw, HM'⟩, by simp [intOf]; omega⟩
      · rw [hb] at H
        have hs := HAT.out b hlt hb HM.out
        have hev := HEV.out b
        have hso : (s1, s2) = if ev b = true then (b, true) else (0, false) := by
          rw [hs, ← hev]
          by_cases q : (⟨x0, x1, x2, x3⟩ : Cl) = onlyv b
          · rw [if_pos q, decide_eq_true q, if_pos rfl]
          · rw [if_neg q, decide_eq_false q, if_neg (by decide)]
        unfold onlyv at E
        clear hs hev HEV HAT HNO HM
        generalize hyy : withv zerov b = y at *
        clear hyy
        obtain ⟨y0, y1, y2, y3⟩ := y
        dsimp only [Cl.v, zerov] at W E
        clear hb
        go_wp2_with fail
        refine (H _).mono ?_
        rintro e w1 ⟨rfl, hk1⟩
        replace hc := blk_kept hk1 hc
        replace hkw := kept_trans hkw hk1
        clear c0 c1 c2 c3 H hk1
        obtain ⟨c0, c1, c2, c3⟩ := cl_cells hc
        dsimp only at c0 c1 c2 c3
        go_wp2_with fail
        have ks_0 := fun s => kw_cell s c0
        have ks_1 := fun s => kw_cell s c1
        have ks_2 := fun s => kw_cell s c2
        have ks_3 := fun s => kw_cell s c3
        refine wp_region_kept (by kernel_rfl) (by kernel_rfl) ?_
        repeat (first | go_big_quiet_skip | (go_big_quiet_want; go_big_quiet_op; first | go_big_quiet_on | (apply Exists.intro; refine ⟨fun s => ?_, ?_⟩; (first | (go_at_call 94; exact call_kept (W _))); go_big_quiet_on)))
        refine wpQuiet_nil ?_
        rintro w7 ⟨⟨_, hk7⟩, rfl⟩
        clear ks_0 ks_1 ks_2 ks_3 c0 c1 c2 c3 E W hc
        replace hkw := kept_trans hkw hk7
        cases hv2 : ev b
        · rw [hv2, if_neg (by decide)] at hso
          cases hso
          go_wp2_with fail
          go_ret2
          exact ⟨rfl, hkw⟩
        · rw [hv2, if_pos rfl] at hso
          cases hso
          go_wp2_with fail
          go_ret2
          exact ⟨rfl, hkw⟩
    · obtain rfl : b = 256 := by omega
      have hs := HNO.out HM.out
      cases hs
      clear W E H HEV HAT HNO HM hc
      go_wp2_with fail
      go_ret2
      exact ⟨rfl, hkw⟩
end Go.Proofs.YtdejablhpljdfaaGreat
set_option linter.unusedVariables false
namespace Go.Proofs.YtdejablhpljdfaaGreat
open Go.RowKit BG
attribute [local go_sem ↓] Go.wp_at_zero Go.wp_at_succ
theorem prime_c (k : Int) (w : World) : Calls Tryz.prog 204 #[.int .i64 k] w (Ret (.int .u64 (pr k)) w) := by
  rcases pr_cases k with ⟨rfl, h⟩ | ⟨rfl, h⟩ | ⟨rfl, h⟩ | ⟨ho, h⟩
  · rw [h]; clear h
    go_enter Tryz.func204, Tryz.ntmps204
    go_wp2
    go_ret
    exact ⟨rfl, by go_grown⟩
  · rw [h]; clear h
    go_enter Tryz.func204, Tryz.ntmps204
    go_wp2
    go_ret
    exact ⟨rfl, by go_grown⟩
  · rw [h]; clear h
    go_enter Tryz.func204, Tryz.ntmps204
    go_wp2
    go_ret
    exact ⟨rfl, by go_grown⟩
  · rw [h]; clear h
    by_cases h0 : k < 0
    · go_enter Tryz.func204, Tryz.ntmps204
      go_wp2
      go_ret
      exact ⟨rfl, by go_grown⟩
    · have h3 : 3 ≤ k := by omega
      go_enter Tryz.func204, Tryz.ntmps204
      go_wp2
      go_ret
      exact ⟨rfl, by go_grown⟩
theorem of_c (k a : Int) (h0 : 0 ≤ a) (w : World) : Calls Tryz.prog 160 #[.int .i64 k, .int .u64 a] w (Ret (.int .u64 (of k a)) w) := by
  by_cases hp : pr k = 0
  · rw [of_zero hp]
    go_enter Tryz.func160, Tryz.ntmps160
    go_wp2_with fail
    refine (prime_c k _).mono ?_
    rintro e w1 ⟨rfl, hk⟩
    go_wp2
    go_ret
    exact ⟨rfl, hk⟩
  · have hr := pr_range k
    have h1 : 1 ≤ pr k := by omega
    rw [of_eq hp]
    go_enter Tryz.func160, Tryz.ntmps160
    go_wp2_with fail
    refine (prime_c k _).mono ?_
    rintro e w1 ⟨rfl, hk⟩
    go_wp2
    go_ret
    exact ⟨rfl, hk⟩
theorem add_c (k a b : Int) (ha : 0 ≤ a) (hb : 0 ≤ b) (w : World) : Calls Tryz.prog 228 #[.int .i64 k, .int .u64 a, .int .u64 b] w (Ret (.int .u64 (addm k a b)) w) := by
  obtain ⟨h1, h2⟩ := of_bd k a
  obtain ⟨h3, h4⟩ := of_bd k b
  rw [← addm_is]
  go_enter Tryz.func228, Tryz.ntmps228
  go_wp2_with fail
  refine (of_c k a ha _).mono ?_
  rintro e w1 ⟨rfl, hk1⟩
  go_wp2_with fail
  refine (of_c k b hb _).mono ?_
  rintro e w2 ⟨rfl, hk2⟩
  go_wp2_with fail
  refine (of_c k _ (by omega) _).mono ?_
  rintro e w3 ⟨rfl, hk3⟩
  go_wp2_with fail
  go_ret
  exact ⟨rfl, kept_trans hk1 (kept_trans hk2 hk3)⟩
theorem sub_c (k a b : Int) (ha : 0 ≤ a) (hb : 0 ≤ b) (w : World) : Calls Tryz.prog 229 #[.int .i64 k, .int .u64 a, .int .u64 b] w (Ret (.int .u64 (subm k a b)) w) := by
  obtain ⟨h1, h2⟩ := of_bd k a
  obtain ⟨h3, h4⟩ := of_bd k b
  obtain ⟨h5, h6⟩ := pr_range k
  have h7 : of k b ≤ of k a + pr k := by
    by_cases hp : pr k = 0
    · rw [of_zero hp b]; omega
    · have := of_lt hp b; omega
  rw [← subm_is]
  go_enter Tryz.func229, Tryz.ntmps229
  go_wp2_with fail
  refine (of_c k a ha _).mono ?_
  rintro e w1 ⟨rfl, hk1⟩
  go_wp2_with fail
  refine (prime_c k _).mono ?_
  rintro e w2 ⟨rfl, hk2⟩
  go_wp2_with fail
  refine (of_c k b hb _).mono ?_
  rintro e w3 ⟨rfl, hk3⟩
  go_wp2_with fail
  refine (of_c k _ (by omega) _).mono ?_
  rintro e w4 ⟨rfl, hk4⟩
  go_wp2_with fail
  go_ret
  exact ⟨rfl, kept_trans hk1 (kept_trans hk2 (kept_trans hk3 hk4))⟩
theorem mul_bd {a b : Int} (h1 : 0 ≤ a) (h2 : a ≤ 998244352) (h3 : 0 ≤ b) (h4 : b ≤ 998244352) : 0 ≤ a * b ∧ a * b ≤ 996491786433269904 := by
  refine ⟨Int.mul_nonneg h1 h3, ?_⟩
  have := Int.mul_le_mul h2 h4 h3 (by decide)
  omega
theorem mul_c (k a b : Int) (ha : 0 ≤ a) (hb : 0 ≤ b) (w : World) : Calls Tryz.prog 103 #[.int .i64 k, .int .u64 a, .int .u64 b] w (Ret (.int .u64 (mulm k a b)) w) := by
  obtain ⟨h1, h2⟩ := of_bd k a
  obtain ⟨h3, h4⟩ := of_bd k b
  obtain ⟨h5, h6⟩ := mul_bd h1 h2 h3 h4
  rw [← mulm_is]
  go_enter Tryz.func103, Tryz.ntmps103
  go_wp2_with fail
  refine (of_c k a ha _).mono ?_
  rintro e w1 ⟨rfl, hk1⟩
  go_wp2_with fail
  refine (of_c k b hb _).mono ?_
  rintro e w2 ⟨rfl, hk2⟩
  go_wp2_with fail
  refine (of_c k _ h5 _).mono ?_
  rintro e w3 ⟨rfl, hk3⟩
  go_wp2_with fail
  go_ret
  exact ⟨rfl, kept_trans hk1 (kept_trans hk2 hk3)⟩
def PowInv (k a n b m o : Int) : Prop := 0 ≤ b ∧ 0 ≤ o ∧ of k o = o ∧ mulm k o (pw k b m) = pw k a n
theorem powInv_end {k a n b o : Int} (h : PowInv k a n b 0 o) : o = pw k a n := by
  obtain ⟨_, _, h1, h2⟩ := h
  rw [← h2, pw_zero]
  unfold mulm
  rw [of_mul_r, Int.mul_one, h1]
theorem powInv_even {k a n b m o : Int} (hm : 0 ≤ m) (h : PowInv k a n b m o) (he : m % 2 = 0) : PowInv k a n (mulm k b b) (m / 2) o := by
  obtain ⟨h0, h1, h2, h3⟩ := h
  refine ⟨(mulm_bd k b b).1, h1, h2, ?_⟩
  rw [← h3]
  congr 1
  have e : mulm k b b = pw k b 2 := by
    unfold mulm pw; rw [show (2 : Int).toNat = 2 from rfl, Int.pow_succ, Int.pow_succ, Int.pow_zero, Int.one_mul]
  rw [e, pw_mul k b (by decide) (by omega), show 2 * (m / 2) = m from by omega]
theorem powInv_odd {k a n b m o : Int} (hm : 0 ≤ m) (h : PowInv k a n b m o) (he : m % 2 = 1) : PowInv k a n (mulm k b b) (m / 2) (mulm k o b) := by
  obtain ⟨h0, h1, h2, h3⟩ := h
  have h' : PowInv k a n b (m - 1) (mulm k o b) := by
    refine ⟨h0, (mulm_bd k o b).1, of_mulm _ _ _, ?_⟩
    rw [← h3]
    have e : pw k b m = mulm k (pw k b 1) (pw k b (m - 1)) := by rw [← pw_add k b (by decide) (by omega), show 1 + (m - 1) = m from by omega]
    rw [e]
    unfold mulm
    rw [of_mul_l, of_mul_r, show pw k b 1 = of k b from by unfold pw; rw [show (1 : Int).toNat = 1 from rfl, Int.pow_succ, Int.pow_zero, Int.one_mul], Int.mul_assoc]
    rw [← of_mul_r k o, ← of_mul_r k o (of k b * _), of_mul_l]
  have := powInv_even (by omega) h' (by omega)
  rwa [show (m - 1) / 2 = m / 2 from by omega] at this
theorem powInv_start {k a n : Int} (ha : 0 ≤ a) : PowInv k a n a n (of k 1) := by
  refine ⟨ha, of_nonneg _ _, of_of _ _, ?_⟩
  unfold mulm; rw [of_mul_l, Int.one_mul, of_pw]
def PowFrame (k b m o : Int) (a' : Act) : Prop := ∃ u8 u9 u10 u11 u12 u13 u14 u15 u16 u17 u18 u19 u20 u21 u22 u23 u24 u25 : Value,
  a' = { tmps := #[.int .i64 k, .int .u64 b, .int .u64 m, undef, undef, undef, .int .u64 0, .int .u64 o, u8, u9, u10, u11, u12, u13, u14, u15, u16, u17, u18, u19, u20, u21, u22, u23, u24, u25], defers := [] }
theorem pow_c (k a n : Int) (ha : 0 ≤ a) (hn : 0 ≤ n) (hn2 : n ≤ 18446744073709551615) (w : World) : Calls Tryz.prog 205 #[.int .i64 k, .int .u64 a, .int .u64 n] w (Ret (.int .u64 (pw k a n)) w) := by
  go_enter Tryz.func205, Tryz.ntmps205
  go_wp2_with fail
  refine wp_scope_jumps 0 (fun a' w' => Kept w w' ∧ ∃ b m o : Int, PowFrame k b m o a' ∧ 0 ≤ m ∧ m ≤ 18446744073709551615 ∧ PowInv k a n b m o) (fun a' _ => (intOf (a'.tmps.getD 2 undef)).toNat) rfl ?_ ?_
  · go_wp2_with fail
    refine (of_c k 1 (by decide) _).mono ?_
    rintro e w1 ⟨rfl, hk1⟩
    have HI := powInv_start (k := k) (n := n) ha
    have HB := of_bd k 1
    by_cases hz : n = 0
    · subst hz
      go_wp2_with fail
      go_step3
      go_wp2_with fail
      simp only [Exit.jump]
      go_ret
      exact ⟨by rw [powInv_end HI]; rfl, hk1⟩
    · rcases (show n % 2 = 0 ∨ n % 2 = 1 from by omega) with he | he
      · have HB2 : bits .and .u64 n 1 = n % 2 := and_one_u64 n hn hn2
        have HB3 : ((n % 2 : Int) == 1) = false := by rw [he]; rfl
        have HI' := powInv_even hn HI he
        have hnz : (n == 0) = false := by simp [hz]
        go_wp2_with fail
        go_step3
        go_wp2_with fail
        refine (mul_c k a a ha ha _).mono ?_
        rintro e w2 ⟨rfl, hk2⟩
        go_wp2_with fail
        go_step3
        exact ⟨rfl, kept_trans hk1 hk2, _, _, _, ⟨_, _, _, _, _, _, _, _, _, _, _, _, _, _, _, _, _, _, rfl⟩, by omega, by omega, HI'⟩
      · have HB2 : bits .and .u64 n 1 = n % 2 := and_one_u64 n hn hn2
        have HB3 : ((n % 2 : Int) == 1) = true := by rw [he]; rfl
        have HI' := powInv_odd hn HI he
        have hnz : (n == 0) = false := by simp [hz]
        go_wp2_with fail
        go_step3
        go_wp2_with fail
        refine (mul_c k _ a HB.1 ha _).mono ?_
        rintro e w2 ⟨rfl, hk2⟩
        go_wp2_with fail
        refine (mul_c k a a ha ha _).mono ?_
        rintro e w3 ⟨rfl, hk3⟩
        go_wp2_with fail
        go_step3
        exact ⟨rfl, kept_trans hk1 (kept_trans hk2 hk3), _, _, _, ⟨_, _, _, _, _, _, _, _, _, _, _, _, _, _, _, _, _, _, rfl⟩, by omega, by omega, HI'⟩
  · rintro a' wr ⟨hk1, b, m, o, ⟨u8, u9, u10, u11, u12, u13, u14, u15, u16, u17, u18, u19, u20, u21, u22, u23, u24, u25, rfl⟩, hm, hm2, HI⟩
    have hb := HI.1
    have ho := HI.2.1
    by_cases hz : m = 0
    · subst hz
      go_wp2_with fail
      simp only [Exit.jump]
      go_ret
      exact ⟨by rw [powInv_end HI]; rfl, hk1⟩
    · rcases (show m % 2 = 0 ∨ m % 2 = 1 from by omega) with he | he
      · have HB2 : bits .and .u64 m 1 = m % 2 := and_one_u64 m hm hm2
        have HB3 : ((m % 2 : Int) == 1) = false := by rw [he]; rfl
        have HI' := powInv_even hm HI he
        have hnz : (m == 0) = false := by simp [hz]
        go_wp2_with fail
        refine (mul_c k b b hb hb _).mono ?_
        rintro e w2 ⟨rfl, hk2⟩
        go_wp2_with fail
        go_step3
        refine ⟨rfl, ⟨kept_trans hk1 hk2, _, _, _, ⟨_, _, _, _, _, _, _, _, _, _, _, _, _, _, _, _, _, _, rfl⟩, by omega, by omega, HI'⟩, ?_⟩
        simp [intOf]; omega
      · have HB2 : bits .and .u64 m 1 = m % 2 := and_one_u64 m hm hm2
        have HB3 : ((m % 2 : Int) == 1) = true := by rw [he]; rfl
        have HI' := powInv_odd hm HI he
        have hnz : (m == 0) = false := by simp [hz]
        go_wp2_with fail
        refine (mul_c k o b ho hb _).mono ?_
        rintro e w2 ⟨rfl, hk2⟩
        go_wp2_with fail
        refine (mul_c k b b hb hb _).mono ?_
        rintro e w3 ⟨rfl, hk3⟩
        go_wp2_with fail
        go_step3
        refine ⟨rfl, ⟨kept_trans hk1 (kept_trans hk2 hk3), _, _, _, ⟨_, _, _, _, _, _, _, _, _, _, _, _, _, _, _, _, _, _, rfl⟩, by omega, by omega, HI'⟩, ?_⟩
        simp [intOf]; omega
def hasInv (k a : Int) : Bool := !(of k a == 0)
theorem inv_c (k a : Int) (ha : 0 ≤ a) (w : World) : Calls Tryz.prog 161 #[.int .i64 k, .int .u64 a] w (Ret (.tuple #[.int .u64 (invm k a), .bool (hasInv k a)]) w) := by
  have h0 := of_bd k a
  by_cases hz : of k a = 0
  · have e1 : invm k a = 0 := by simp [invm, hz]
    have e2 : hasInv k a = false := by simp [hasInv, hz]
    rw [e1, e2]
    clear e1 e2
    go_enter Tryz.func161, Tryz.ntmps161
    go_wp2_with fail
    refine (of_c k a ha _).mono ?_
    rintro e w1 ⟨rfl, hk1⟩
    go_wp2_with fail
    go_ret2
    exact ⟨rfl, hk1⟩
  · have hp : pr k ≠ 0 := fun e => hz (of_zero e a)
    have hr := pr_range k
    have hb := pr_big hp
    have e1 : invm k a = pw k a (pr k - 2) := by simp [invm, hz]
    have e2 : hasInv k a = true := by simp [hasInv, hz]
    rw [e1, e2]
    clear e1 e2
    have hz' : (of k a == 0) = false := by simp [hz]
    go_enter Tryz.func161, Tryz.ntmps161
    go_wp2_with fail
    refine (of_c k a ha _).mono ?_
    rintro e w1 ⟨rfl, hk1⟩
    go_wp2_with fail
    refine (prime_c k _).mono ?_
    rintro e w2 ⟨rfl, hk2⟩
    go_wp2_with fail
    refine (pow_c k a _ ha (by omega) (by omega) _).mono ?_
    rintro e w3 ⟨rfl, hk3⟩
    go_wp2_with fail
    go_ret2
    exact ⟨rfl, kept_trans hk1 (kept_trans hk2 hk3)⟩
def hasRoot (k l : Int) : Bool := decide (pr k ≠ 0 ∧ 0 ≤ l ∧ l ≤ 12)
def rootv (k l : Int) : Int := if hasRoot k l then rootm k l.toNat else 0
theorem root_c (k l : Int) (hl : -9223372036854775808 ≤ l) (hl2 : l ≤ 9223372036854775807) (w : World) : Calls Tryz.prog 157 #[.int .i64 k, .int .i64 l] w (Ret (.tuple #[.int .u64 (rootv k l), .bool (hasRoot k l)]) w) := by
  have hr := pr_range k
  by_cases hz : pr k ≠ 0 ∧ 0 ≤ l ∧ l ≤ 12
  · obtain ⟨hp, h0, h1⟩ := hz
    have hb := pr_big hp
    have e1 : hasRoot k l = true := by simp [hasRoot, hp, h0, h1]
    have e2 : rootv k l = rootm k l.toNat := by simp [rootv, e1]
    rw [e1, e2]
    clear e1 e2
    have hpf : (pr k == 0) = false := by simp [hp]
    go_enter Tryz.func157, Tryz.ntmps157
    go_wp2_with fail
    refine (prime_c k _).mono ?_
    rintro e w1 ⟨rfl, hk1⟩
    go_wp2_with fail
    refine (prime_c k _).mono ?_
    rintro e w2 ⟨rfl, hk2⟩
    go_wp2_with fail
    have hq0 : 0 ≤ (pr k - 1) / 2 ^ l.toNat := Int.ediv_nonneg (by omega) (Int.le_of_lt (Int.pow_pos (by decide)))
    have hq1 : (pr k - 1) / 2 ^ l.toNat ≤ 998244352 := Int.le_trans (Int.ediv_le_self _ (by omega)) (by omega)
    refine (pow_c k 3 _ (by decide) hq0 (by omega) _).mono ?_
    rintro e w3 ⟨rfl, hk3⟩
    go_wp2_with fail
    go_ret2
    exact ⟨by rw [rootm_is]; rfl, kept_trans hk1 (kept_trans hk2 hk3)⟩
  · have e1 : hasRoot k l = false := by simp only [hasRoot, decide_eq_false_iff_not]; exact hz
    have e2 : rootv k l = 0 := by simp [rootv, e1]
    rw [e1, e2]
    clear e1 e2
    by_cases hp : pr k = 0
    · have hpf : (pr k == 0) = true := by simp [hp]
      clear hz
      go_enter Tryz.func157, Tryz.ntmps157
      go_wp2_with fail
      refine (prime_c k _).mono ?_
      rintro e w1 ⟨rfl, hk1⟩
      go_wp2_with fail
      go_ret2
      exact ⟨rfl, hk1⟩
    · have hpf : (pr k == 0) = false := by simp [hp]
      by_cases h0 : l < 0
      · clear hz
        go_enter Tryz.func157, Tryz.ntmps157
        go_wp2_with fail
        refine (prime_c k _).mono ?_
        rintro e w1 ⟨rfl, hk1⟩
        go_wp2_with fail
        go_ret2
        exact ⟨rfl, hk1⟩
      · have h1 : 12 < l := by
          rcases Int.lt_or_le 12 l with h | h
          · exact h
          · exact absurd ⟨hp, by omega, h⟩ hz
        clear hz
        go_enter Tryz.func157, Tryz.ntmps157
        go_wp2_with fail
        refine (prime_c k _).mono ?_
        rintro e w1 ⟨rfl, hk1⟩
        go_wp2_with fail
        go_ret2
        exact ⟨rfl, hk1⟩
end Go.Proofs.YtdejablhpljdfaaGreat
