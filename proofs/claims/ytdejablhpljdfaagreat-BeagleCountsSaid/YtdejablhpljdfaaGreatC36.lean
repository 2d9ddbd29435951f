/-
  Texts of one claim, joined: TCounts, RBeagleCounts.
-/
import Derived.Test.YtdejablhpljdfaaGreatRows
import Derived.WalkKit
import Derived.ProofKit
import Derived.OpenShut
import Derived.ChangeOld
import Derived.Below
import Derived.SizedLaws
import Derived.Carry
import Derived.Test.YtdejablhpljdfaaGreatC35
import Derived.Test.YtdejablhpljdfaaGreatC25
import Derived.Test.YtdejablhpljdfaaGreatC07
namespace Go.Proofs.YtdejablhpljdfaaGreat
open Go.RowKit BG
attribute [local go_sem ↓] Go.wp_at_zero Go.wp_at_succ run_max_at run_min_at
set_option linter.unusedVariables false
theorem mcountsk_c (k : Nat) (h1 : 1 ≤ k) (h5 : k ≤ 5) (A : Option Addr) (cap n : Nat) (xs : List Int) (K : Int) (s : ByteArray) (size : Int) (hu : U64 xs) (hl : xs.length = 4 * n) (hn : n ≤ 1000000) (hsz : s.size ≤ 900000) (w : World) (hr : Rd .u64 w A xs) : Calls Tryz.prog 23 #[.int .i64 (k : Nat), leafV A n cap K, .string s, .int .i64 size] w (AnsI (mCL k xs n K s size) (mCN k xs n K s.size size) (mCE k xs n K s.size size) w) := by
  have h : k = 1 ∨ k = 2 ∨ k = 3 ∨ k = 4 ∨ k = 5 := by omega
  rcases h with rfl | rfl | rfl | rfl | rfl
  · exact mcounts_1 A cap n xs K s size hu hl hn hsz w hr
  · exact mcounts_2 A cap n xs K s size hu hl hn hsz w hr
  · exact mcounts_3 A cap n xs K s size hu hl hn hsz w hr
  · exact mcounts_4 A cap n xs K s size hu hl hn hsz w hr
  · exact mcounts_5 A cap n xs K s size hu hl hn hsz w hr
theorem mat_right {way : Nat} {xs : List Int} {n : Nat} {K N size : Int} (h : admitsv way xs n K = true) : matE way xs n K N size = 0 ∨ matE way xs n K N size = 50 := by
  unfold matE
  rw [if_pos h]
  split
  · exact .inl rfl
  · exact .inr rfl
theorem cnt_law {k : Nat} {xs : List Int} {n : Nat} {K : Int} {s : ByteArray} {size : Int} (hr : rightv xs n K = true) (h1 : 1 ≤ k) (h5 : k ≤ 5) :
    (mCE k xs n K s.size size = 0 ∧ mCL k xs n K s size = countsv xs n K s) ∨ (mCE k xs n K s.size size ≠ 0 ∧ mCL k xs n K s size = [] ∧ k ≠ 1 ∧ (k = 4 → mCE k xs n K s.size size = 50) ∧ (k = 5 → plainv xs n = true → mCE k xs n K s.size size = 50)) := by
  have h : k = 1 ∨ k = 2 ∨ k = 3 ∨ k = 4 ∨ k = 5 := by omega
  rcases h with rfl | rfl | rfl | rfl | rfl
  · left
    have ha : admitsv 1 xs n K = true := by unfold admitsv; rw [hr]; rfl
    have hz : sizedv 1 xs n K s.size size = true := by unfold sizedv; rw [ha]; simp [freeb]
    have hm : mcE 1 xs n K s.size size = 0 := by unfold mcE matE; rw [if_pos (by rfl), if_pos ha, if_pos hz]
    unfold mCE mCL
    rw [if_pos hm, if_pos hm]
    exact ⟨rfl, rfl⟩
  · right
    have hm : mcE 2 xs n K s.size size = 170 := by unfold mcE; rw [if_neg (by decide)]
    unfold mCE mCL
    rw [if_neg (by rw [hm]; decide), if_neg (by rw [hm]; decide), hm]
    exact ⟨by decide, rfl, by decide, (by intro h; omega), (by intro h; omega)⟩
  · right
    have hm : mcE 3 xs n K s.size size = 170 := by unfold mcE; rw [if_neg (by decide)]
    unfold mCE mCL
    rw [if_neg (by rw [hm]; decide), if_neg (by rw [hm]; decide), hm]
    exact ⟨by decide, rfl, by decide, (by intro h; omega), (by intro h; omega)⟩
  · have ha : admitsv 4 xs n K = true := by unfold admitsv; rw [hr]; rfl
    have hmc : mcE 4 xs n K s.size size = matE 4 xs n K s.size size := by unfold mcE; rw [if_pos (by rfl)]
    unfold mCE mCL
    rcases mat_right (N := s.size) (size := size) ha with hm | hm
    · rw [hmc, if_pos hm, if_pos hm]
      show (symE xs n K s.size size = 0 ∧ symL xs n K s size = _) ∨ _
      have hse : symE xs n K s.size size = 0 ∨ symE xs n K s.size size = 50 := by
        unfold symE
        rw [if_pos hr]
        split
        · exact .inr rfl
        · exact .inl rfl
      unfold symL
      rcases hse with h | h
      · left; exact ⟨h, if_pos h⟩
      · right
        refine ⟨?_, ?_, by decide, fun _ => h, (by intro h; omega)⟩
        · show ¬ symE xs n K s.size size = 0; omega
        · show symL xs n K s size = []
          unfold symL
          rw [if_neg (show ¬ symE xs n K s.size size = 0 by omega)]
    · right
      rw [hmc, if_neg (by omega), if_neg (by omega)]
      exact ⟨by omega, rfl, by decide, fun _ => hm, (by intro h; omega)⟩
  · have hmc : mcE 5 xs n K s.size size = matE 5 xs n K s.size size := by unfold mcE; rw [if_pos (by rfl)]
    unfold mCE mCL
    by_cases hp : plainv xs n = true
    · have ha : admitsv 5 xs n K = true := by unfold admitsv; rw [hr]; simp [hp]
      rcases mat_right (N := s.size) (size := size) ha with hm | hm
      · rw [hmc, if_pos hm, if_pos hm]
        show (splEr xs n K s.size size = 0 ∧ splL xs n K s size = _) ∨ _
        have hse : splEr xs n K s.size size = 0 ∨ splEr xs n K s.size size = 50 := by
          unfold splEr splE
          rw [if_pos ⟨hr, hp⟩]
          split
          · exact .inr rfl
          · exact .inl rfl
        rcases hse with h | h
        · left; exact ⟨h, if_pos h⟩
        · right
          refine ⟨?_, ?_, by decide, (by intro h; omega), fun _ _ => h⟩
          · show ¬ splEr xs n K s.size size = 0; omega
          · show splL xs n K s size = []
            unfold splL
            rw [if_neg (show ¬ splEr xs n K s.size size = 0 by omega)]
      · right
        rw [hmc, if_neg (by omega), if_neg (by omega)]
        exact ⟨by omega, rfl, by decide, (by intro h; omega), fun _ _ => hm⟩
    · right
      have ha : admitsv 5 xs n K = false := by
        unfold admitsv
        rw [hr]
        simp [hp]
      have hm : matE 5 xs n K s.size size = 170 := by unfold matE; rw [if_neg (by rw [ha]; decide)]
      rw [hmc, if_neg (by omega), if_neg (by omega), hm]
      exact ⟨by decide, rfl, by decide, (by intro h; omega), fun _ h => absurd h hp⟩
set_option maxRecDepth 100000 in
set_option maxHeartbeats 16000000 in
theorem beagleCounts_w (A : Option Addr) (cap n : Nat) (xs : List Int) (K : Int) (s : ByteArray) (size : Int) (hl : xs.length = 4 * n) (hn : n ≤ 9223372036854775807) (hs : s.size ≤ 9223372036854775807) (hu : U64 xs) (w : World) (hr : 4 * n ≤ 9223372036854775807 → Rd .u64 w A xs) : Calls Tryz.prog 5 #[leafV A n cap K, .string s, .int .i64 size] w (Ret (.bool true) w) := by
  have ka := kept_alloc (kept_refl w) (.cells #[.slice A n cap, .int .i64 K] 61)
  have hb := blk_new w (.cells #[.slice A n cap, .int .i64 K] 61)
  have c0 := blk_cell hb 0
  have c1 := blk_cell hb 1
  have AL := alive_c
  by_cases hfew : n ≤ 70 ∧ s.size ≤ 300
  · obtain ⟨hn, hs⟩ := hfew
    have hr := hr (by omega)
    have RG := fun w1 h => right_c A cap n xs K hl w1 h
    have d1 : decide ((70 : Int) < (n : Int)) = false := decide_eq_false (by omega)
    have d2 : decide ((300 : Int) < (s.size : Int)) = false := decide_eq_false (by omega)
    have d1n : decide (70 < n) = false := decide_eq_false (by omega)
    have d2n : decide (300 < s.size) = false := decide_eq_false (by omega)
    cases hrv : rightv xs n K
    · rw [hrv] at RG
      go_enter Tryz.func5, Tryz.ntmps5
      go_wp2_with fail
      refine (RG _ (hr.kept ka)).mono ?_
      rintro e w1 ⟨rfl, hk1⟩
      go_wp2_with fail
      refine (AL _).mono ?_
      rintro e w2 ⟨rfl, hk2⟩
      go_wp2_with fail
      go_ret
      exact ⟨rfl, kept_trans (kept_trans ka hk1) hk2⟩
    · rw [hrv] at RG
      have CL := Lib.hid (fun k h1 h5 => cnt_law (k := k) (xs := xs) (n := n) (K := K) (s := s) (size := size) hrv h1 h5)
      have RC := fun w1 h => rcounts_c A cap n xs K s hu hl (by omega) (by omega) w1 h
      have MC := fun k h1 h5 w1 h => mcountsk_c k h1 h5 A cap n xs K s size hu hl (by omega) (by omega) w1 h
      have PL := fun w1 h => plain_c A cap n xs K hu hl w1 h
      clear hrv
      go_enter Tryz.func5, Tryz.ntmps5
      go_wp2_with fail
      refine (RG _ (hr.kept ka)).mono ?_
      rintro e w1 ⟨rfl, hk1⟩
      replace hb := blk_kept hk1 hb
      replace ka := kept_trans ka hk1
      clear c0 c1 RG
      have c0 := blk_cell hb 0
      have c1 := blk_cell hb 1
      go_wp2_with fail
      refine (RC _ (hr.kept ka)).mono ?_
      rintro e w2 ⟨v, rfl, own, hk2⟩
      replace hb := blk_kept hk2 hb
      replace ka := kept_trans ka hk2
      obtain ⟨B, bc, rfl, -, -, rd⟩ := own.rd
      clear own c0 c1 RC
      generalize countsv xs n K s = cl at *
      go_wp2_with fail
      go_loopw [8] (fun v wr => ∃ k : Nat, 1 ≤ k ∧ k ≤ 6 ∧ v = .int .i64 k ∧ Kept w2 wr) (fun v _ => 6 - (intOf v).toNat)
      case atStart => exact ⟨1, by decide, by decide, rfl, kept_refl _⟩
      case round =>
        obtain ⟨k, h1, h6, rfl, hkw⟩ := hrel
        have hbw := blk_kept hkw hb
        have kw := kept_trans ka hkw
        have rdw := rd.kept hkw
        have c0 := blk_cell hbw 0
        have c1 := blk_cell hbw 1
        by_cases h5 : k ≤ 5
        · have M := MC k h1 h5
          rcases CL.out k h1 h5 with ⟨e0, el⟩ | ⟨e0, el, hn1, h4, hp5⟩
          · rw [e0, el] at M
            generalize mCN k xs n K s.size size = nn at *
            clear MC PL CL e0 el
            unfold AnsI at M
            go_wp2_with fail
            refine (M _ (hr.kept kw)).mono ?_
            rintro e w3 ⟨A3, cp3, rfl, rd3, k3⟩
            have PP := places_c A3 B cp3 bc cl cl _ rd3 (rdw.kept k3)
            rw [sameL_refl] at PP
            have k4 := kept_trans hkw k3
            clear M rd3 k3 c0 c1 hbw rdw kw
            go_wp2_with fail
            refine PP.mono ?_
            rintro e w4 ⟨rfl, k5⟩
            have k6 := kept_trans k4 k5
            clear PP k4 k5
            go_wp2_with fail
            go_roundw
            case rel => exact ⟨k + 1, by omega, by omega, by go_num, k6⟩
            case measure => simp [intOf]; omega
          · rw [el] at M
            generalize mCN k xs n K s.size size = nn at *
            generalize mCE k xs n K s.size size = er at *
            clear MC CL el
            unfold AnsI at M
            have d1 : (er == 0) = false := beq_eq_false_iff_ne.2 e0
            have d2 : (er != 0) = true := bne_iff_ne.2 e0
            have hk : k = 2 ∨ k = 3 ∨ k = 4 ∨ k = 5 := by omega
            rcases hk with rfl | rfl | rfl | rfl
            · clear PL
              clear h4 hp5
              go_wp2_with fail
              refine (M _ (hr.kept kw)).mono ?_
              rintro e w3 ⟨A3, cp3, rfl, rd3, k3⟩
              have k4 := kept_trans hkw k3
              have b3 := blk_kept k3 hbw
              have p0 := blk_cell b3 0
              have p1 := blk_cell b3 1
              clear M rd3 k3 c0 c1 hbw rdw kw
              go_wp2_with fail
              go_roundw
              case rel => exact ⟨3, by omega, by omega, by go_num, k4⟩
              case measure => simp [intOf]
            · clear PL
              clear h4 hp5
              go_wp2_with fail
              refine (M _ (hr.kept kw)).mono ?_
              rintro e w3 ⟨A3, cp3, rfl, rd3, k3⟩
              have k4 := kept_trans hkw k3
              have b3 := blk_kept k3 hbw
              have p0 := blk_cell b3 0
              have p1 := blk_cell b3 1
              clear M rd3 k3 c0 c1 hbw rdw kw
              go_wp2_with fail
              go_roundw
              case rel => exact ⟨4, by omega, by omega, by go_num, k4⟩
              case measure => simp [intOf]
            · obtain rfl : er = 50 := h4 rfl
              clear h4 hp5
              go_wp2_with fail
              refine (M _ (hr.kept kw)).mono ?_
              rintro e w3 ⟨A3, cp3, rfl, rd3, k3⟩
              have k4 := kept_trans hkw k3
              have b3 := blk_kept k3 hbw
              have p0 := blk_cell b3 0
              have p1 := blk_cell b3 1
              clear M rd3 k3 c0 c1 hbw rdw kw
              go_wp2_with fail
              go_roundw
              case rel => exact ⟨5, by omega, by omega, by go_num, k4⟩
              case measure => simp [intOf]
            · have HP5 := Lib.hid (hp5 rfl)
              clear h4 hp5
              go_wp2_with fail
              refine (M _ (hr.kept kw)).mono ?_
              rintro e w3 ⟨A3, cp3, rfl, rd3, k3⟩
              have k4 := kept_trans hkw k3
              have b3 := blk_kept k3 hbw
              have p0 := blk_cell b3 0
              have p1 := blk_cell b3 1
              have PP := PL _ ((hr.kept kw).kept k3)
              clear M rd3 k3 c0 c1 hbw rdw kw
              go_wp2_with fail
              refine PP.mono ?_
              rintro e w4 ⟨rfl, k5⟩
              have k6 := kept_trans k4 k5
              clear PP k4 k5 p0 p1 b3
              cases hpl : plainv xs n
              · clear HP5
                go_wp2_with fail
                go_roundw
                case rel => exact ⟨6, by omega, by omega, by go_num, k6⟩
                case measure => simp [intOf]
              · obtain rfl : er = 50 := HP5.out hpl
                clear HP5
                go_wp2_with fail
                go_roundw
                case rel => exact ⟨6, by omega, by omega, by go_num, k6⟩
                case measure => simp [intOf]
        · obtain rfl : k = 6 := by omega
          go_wp2_with fail
          refine (AL _).mono ?_
          rintro e w4 ⟨rfl, k4⟩
          go_wp2_with fail
          go_ret
          exact ⟨rfl, kept_trans kw k4⟩
  · by_cases h70 : n ≤ 70
    · have h300 : ¬ s.size ≤ 300 := fun h => hfew ⟨h70, h⟩
      have d1 : decide ((70 : Int) < (n : Int)) = false := decide_eq_false (by omega)
      have d2 : decide ((300 : Int) < (s.size : Int)) = true := decide_eq_true (by omega)
      have d1n : decide (70 < n) = false := decide_eq_false (by omega)
      have d2n : decide (300 < s.size) = true := decide_eq_true (by omega)
      go_enter Tryz.func5, Tryz.ntmps5
      go_wp2_with fail
      refine (AL _).mono ?_
      rintro e w2 ⟨rfl, hk2⟩
      go_wp2_with fail
      go_ret
      exact ⟨rfl, kept_trans ka hk2⟩
    · have d1 : decide ((70 : Int) < (n : Int)) = true := decide_eq_true (by omega)
      have d1n : decide (70 < n) = true := decide_eq_true (by omega)
      go_enter Tryz.func5, Tryz.ntmps5
      go_wp2_with fail
      refine (AL _).mono ?_
      rintro e w2 ⟨rfl, hk2⟩
      go_wp2_with fail
      go_ret
      exact ⟨rfl, kept_trans ka hk2⟩
end Go.Proofs.YtdejablhpljdfaaGreat
namespace Go.Proofs.YtdejablhpljdfaaGreat.beagleCounts
open Go.ChangeShapes Go.WideShapes Go.ChangeAt Go.RowKit
set_option linter.unusedVariables false
theorem own : ownKnob Tryz.prog.godebug = none := by kernel_rfl
theorem laidOut : laidOutB Tryz.prog = true := by kernel_rfl
set_option maxRecDepth 100000 in
theorem lifted (os : Os) (started : os.Started) (H : Type) (enc : TypeId × Value → H) :
    ReturnsInHanded {} Tryz.checked os 5 .any (Rows.beagleCountsSpec.pre6 enc Tryz.prog Tryz.f5 Rows.beagleCountsRow.domain false) (Rows.beagleCountsSpec.post enc Tryz.prog Tryz.f5 false true false false) := by
  refine returnsInHanded_of_change_sized (C := Tryz.checked) own started (by kernel_rfl) Tryz.func5
    (ChangeSpec.witness6 (enc := enc) (C := Tryz.checked) false ⟨#[], #[.agg #[.slice none 0 0, .int .i64 0], .string ⟨#[]⟩, .int .i64 0], []⟩ 8 (by kernel_rfl) (by kernel_rfl) (by kernel_rfl) (by kernel_rfl)) ?_
  intro W base args ds gs before hval0 hW hcnd hsz0 _
  have hsz : (DataW.weightsEach Tryz.prog (Tryz.f5.params.toList ++ Rows.beagleCountsSpec.plain.varTypes Tryz.prog) (ds ++ gs)).all (· ≤ reachBytes) = true := hsz0
  have hval : ∀ (j : Nat) t v, Tryz.f5.params[j]? = some t → args[j]? = some v → Value.okWide Tryz.prog W .any base t v := hval0
  have hW' := hW
  obtain ⟨p, q, hA0, hV, rfl, hfz, hnd⟩ := hW
  have hA : DataW.TrodAll enc Tryz.prog W 0 (fun _ => true) true Tryz.f5.params.toList args.toList ds p := hA0
  rw [Tryz.params5] at hA hval hsz
  obtain ⟨v0, vs0, d0, ds0, p0, q0, hargs, rfl, rfl, h0, r0⟩ := trodAll_cons hA
  obtain ⟨v1, vs1, d1, ds1, p1, q1, rfl, rfl, rfl, h1, r1⟩ := trodAll_cons r0
  obtain ⟨v2, vs2, d2, ds2, p2, q2, rfl, rfl, rfl, h2, r2⟩ := trodAll_cons r1
  obtain ⟨rfl, rfl, rfl⟩ := trodAll_nil r2
  obtain rfl : args = #[v0, v1, v2] := by cases args; simp_all
  obtain ⟨rfl, rfl⟩ := trodVars_none hV
  have k0 := h0
  have lt0 : ∀ x ∈ p0, x.block < W.heap.size := by obtain ⟨m, hm⟩ := k0; exact DataW.trod_lt m _ _ _ hm
  obtain ⟨a0, cap0, n0, l0, e0, rfl, hl0, y0, rd0, w0, g0⟩ := open_leaf Tryz.underlying61 (by kernel_rfl) rfl rfl (by kernel_rfl) (by kernel_rfl) Tryz.underlying59 Tryz.underlying110 Tryz.underlying108 (by kernel_rfl) (by kernel_rfl) (by decide) Tryz.underlying3 (hval 0 61 v0 rfl rfl) h0
  have k1 := h1
  have lt1 : ∀ x ∈ p1, x.block < W.heap.size := by obtain ⟨m, hm⟩ := k1; exact DataW.trod_lt m _ _ _ hm
  obtain ⟨s1, rfl, rfl, rfl, y1⟩ := Go.ChangeMaps.open_string Tryz.underlying9 (hval 1 9 v1 rfl rfl) h1
  have z1 : s1.size ≤ 9223372036854775807 := y1
  have k2 := h2
  have lt2 : ∀ x ∈ p2, x.block < W.heap.size := by obtain ⟨m, hm⟩ := k2; exact DataW.trod_lt m _ _ _ hm
  obtain ⟨a2, rfl, rfl, rfl, w2⟩ := open_int Tryz.underlying3 (hval 2 3 v2 rfl rfl) h2
  have b2 := bounds_i64 w2
  clear hA0 hval0 hsz0 hsz
  refine (beagleCounts_w a0 cap0 n0 l0 e0 s1 a2 hl0 y0 z1 (u64_wf w0) W rd0).mono fun e W' ⟨he, bel⟩ => ?_
  subst he
  exact ⟨_, rfl, _, _, _, [], _, [], hW', trodAll_mk1 (shut_bool Tryz.underlying4 _), (trodAll_cons_mk (Below.trod laidOut (by kernel_rfl) (of_decide_eq_true (by kernel_rfl)) k0 bel lt0) (trodAll_cons_mk (Below.trod laidOut (by kernel_rfl) (of_decide_eq_true (by kernel_rfl)) k1 bel lt1) (trodAll_cons_mk (Below.trod laidOut (by kernel_rfl) (of_decide_eq_true (by kernel_rfl)) k2 bel lt2) trodAll_mk0))), rfl, bel.frame _, fun h => by cases h⟩
theorem over : Rows.beagleCountsRow.holds Tryz.pinned (OpenSpec.ofChange Rows.beagleCountsSpec) :=
  OpenClaim.holds_of_wide 5 Tryz.f5 rfl rfl rfl rfl rfl rfl rfl ⟨rfl, rfl, rfl, rfl, rfl⟩ rfl rfl rfl rfl rfl (by kernel_rfl) Tryz.func5 (by kernel_rfl)
    (of_decide_eq_true (by kernel_rfl)) (by unfold Func.isWrapper; first | (rw [if_pos (by decide +kernel)]; kernel_rfl) | (rw [if_neg (by decide +kernel)]; exact ⟨rfl, rfl⟩))
    (fun os started H enc _ => lifted os started H enc)
theorem proved : Rows.BeagleCountsSaid := over
end Go.Proofs.YtdejablhpljdfaaGreat.beagleCounts
namespace Go.Proofs.YtdejablhpljdfaaGreat
theorem beagleCounts_holds : Rows.BeagleCountsSaid := beagleCounts.proved
end Go.Proofs.YtdejablhpljdfaaGreat
