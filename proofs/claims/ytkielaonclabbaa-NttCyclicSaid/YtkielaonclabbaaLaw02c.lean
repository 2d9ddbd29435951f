/-
  Layer 2's statements: the walks.
-/
import Derived.Test.YtkielaonclabbaaLaw02
import Derived.Laws.AppendOwnNone
namespace Go.Proofs.Ytkielaonclabbaa
open Go.RowKit BG
attribute [local go_sem ↓] Go.wp_at_zero Go.wp_at_succ
set_option linter.unusedVariables false

theorem cycv_length (k : Int) (xs ys : List Int) : (cycv k xs ys).length = if cycErr k xs.length ys.length = 0 then xs.length else 0 := by unfold cycv; split <;> simp [mk_length]
theorem u64_cyc (k : Int) (xs ys : List Int) : U64 (cycv k xs ys) := by
  unfold cycv; split
  · exact u64_mk fun j _ => of_nonneg _ _
  · exact u64_all (by simp)
theorem fwd_cyc {k : Int} {xs ys : List Int} (h : cycErr k xs.length ys.length = 0) : fwdv k (cycv k xs ys) = mk xs.length fun j => mulm k (nth (fwdv k xs) j) (nth (fwdv k ys) j) := by
  obtain ⟨hz, hl⟩ := cycErr_zero h
  obtain ⟨hp, hlg⟩ := amiss_zero hz
  obtain ⟨hL, hx⟩ := len_log hz
  have hlen : (cycv k xs ys).length = xs.length := by rw [cycv_length, if_pos h]
  have hcv : cycv k xs ys = mk xs.length fun t => of k (cyc xs.length (nth xs) (nth ys) t) := by unfold cycv; rw [if_pos h]
  rw [fwdv_eq (by rw [hlen]; exact hz), hlen]
  refine mk_congr fun j hj => ?_
  rw [fwdv_eq hz, nth_mk hj, fwdv_eq (xs := ys) (by rw [hl]; exact hz), hl, nth_mk hj, hcv]
  rw [dft_cong (y := cyc xs.length (nth xs) (nth ys)) (fun i hi => by rw [nth_mk hi]; exact cong_of _ _) (Cong.refl _ _)]
  have h1 := dft_cyc (rootOf hp hL) (nth xs) (nth ys) j
  rw [← hx] at h1
  exact h1
set_option maxHeartbeats 4000000 in
theorem nttCyclic_w (k : Int) (A B : Option Addr) (ca cb : Nat) (xs ys : List Int) (hu : U64 xs) (hv : U64 ys) (w : World) (hr : Rd .u64 w A xs) (hs : Rd .u64 w B ys) : Calls Try.prog 7 #[.int .i64 k, .slice A xs.length ca, .slice B ys.length cb] w (Ret (.bool true) w) := by
  have hm := hr.1
  have hm2 := hs.1
  by_cases h : xs.length ≤ 200
  · by_cases h' : ys.length ≤ 200
    · have g1 : decide (200 < xs.length) = false := decide_eq_false (by omega)
      have g2 : decide (200 < ys.length) = false := decide_eq_false (by omega)
      have C1 := cyclic_c k A B ca cb xs ys hu hv w hr hs
      have C2 := fun w1 r s => rcyclic_c k A B ca cb xs ys hu hv w1 r s
      by_cases hz : cycErr k xs.length ys.length = 0
      · obtain ⟨hz1, hl⟩ := cycErr_zero hz
        have F := fun A c => forward_c k A c (cycv k xs ys) (u64_cyc k xs ys)
        have hcl : (cycv k xs ys).length = xs.length := by rw [cycv_length, if_pos hz]
        have hff := fwd_cyc hz
        rw [hff, hcl, hz1] at F
        have G := forward_c k A ca xs hu
        have H := forward_c k B cb ys hv
        have hgl : (fwdv k xs).length = xs.length := by rw [fwdv_length, if_pos hz1]
        have hhl : (fwdv k ys).length = xs.length := by rw [fwdv_length, hl, if_pos hz1]
        rw [hz1] at G
        rw [hl, hz1] at H
        have hug := u64_fwd k xs
        have huh := u64_fwd k ys
        rw [hz] at C1 C2
        rw [hl] at C1 C2
        have hfl : (mk xs.length fun j => mulm k (nth (fwdv k xs) j) (nth (fwdv k ys) j)).length = xs.length := mk_length _ _
        have hfn := fun j (hj : j < xs.length) => (nth_mk hj : nth (mk xs.length fun j => mulm k (nth (fwdv k xs) j) (nth (fwdv k ys) j)) j = mulm k (nth (fwdv k xs) j) (nth (fwdv k ys) j))
        have hlq := hl
        rw [hl]
        clear hff hz hz1 hm2 h' g2 hlq hl
        generalize mk xs.length (fun j => mulm k (nth (fwdv k xs) j) (nth (fwdv k ys) j)) = fs at *
        generalize fwdv k xs = gs at *
        generalize fwdv k ys = qs at *
        generalize cycv k xs ys = cs at *
        generalize hn : xs.length = n at *
        go_enter Try.func7, Try.ntmps7
        go_wp2_with fail
        refine C1.mono ?_
        rintro e w1 ⟨v1, rfl, hown1, hk1⟩
        clear C1
        have C2 := C2 w1 (hr.kept hk1) (hs.kept hk1)
        go_wp2_with fail
        refine C2.mono ?_
        rintro e w2 ⟨v2, rfl, hown2, hk2⟩
        clear C2
        obtain ⟨A1, c1, rfl, _, _, r1⟩ := (hown1.kept hk2).rd
        obtain ⟨A2, c2, rfl, _, _, r2⟩ := hown2.rd
        clear hown1 hown2
        have S := same_c A1 A2 c1 c2 _ _ w2 r1 r2
        rw [sameL_refl] at S
        rw [hcl] at S
        rw [hcl]
        have hk := kept_trans hk1 hk2
        clear hk1 hk2
        go_wp2_with fail
        refine S.mono ?_
        rintro e w3 ⟨rfl, hk3⟩
        clear S
        replace hk := kept_trans hk hk3
        have F := F A1 c1 w3 (r1.kept hk3)
        clear hk3 r1 r2
        go_wp2_with fail
        refine F.mono ?_
        rintro e w4 ⟨v4, rfl, hown4, hk4⟩
        clear F
        have G := G w4 (hr.kept (kept_trans hk hk4))
        go_wp2_with fail
        refine G.mono ?_
        rintro e w5 ⟨v5, rfl, hown5, hk5⟩
        clear G
        have H := H w5 (hs.kept (kept_trans hk (kept_trans hk4 hk5)))
        go_wp2_with fail
        refine H.mono ?_
        rintro e w6 ⟨v6, rfl, hown6, hk6⟩
        clear H
        obtain ⟨A4, c4, rfl, _, _, r4⟩ := (hown4.kept (kept_trans hk5 hk6)).rd
        obtain ⟨A5, c5, rfl, _, _, r5⟩ := (hown5.kept hk6).rd
        obtain ⟨A6, c6, rfl, _, _, r6⟩ := hown6.rd
        replace hk := kept_trans hk (kept_trans hk4 (kept_trans hk5 hk6))
        clear hown4 hown5 hown6 hk4 hk5 hk6
        rw [hfl, hgl, hhl]
        go_wp2_with fail
        go_loopw [92] (fun i wr => ∃ q : Nat, q ≤ n ∧ i = .int .i64 q ∧ Kept w6 wr) (fun i _ => n - (intOf i).toNat)
        case atStart => exact ⟨0, Nat.zero_le _, rfl, kept_refl _⟩
        case round =>
          obtain ⟨q, hq, rfl, hkx⟩ := hrel
          by_cases hlt : q < n
          · obtain ⟨bd, rfl, c0⟩ := (r4.kept hkx).at_ (j := q) (by omega)
            obtain ⟨cd, rfl, c1⟩ := (r5.kept hkx).at_ (j := q) (by omega)
            obtain ⟨dd, rfl, c2⟩ := (r6.kept hkx).at_ (j := q) (by omega)
            rw [hfn q hlt] at c0
            have M := mul_c k (nth gs q) (nth qs q) (hug q) (huh q)
            generalize mulm k (nth gs q) (nth qs q) = y at *
            generalize nth gs q = x at *
            generalize nth qs q = z at *
            go_wp2_with fail
            have ks_c0 := fun s => kw_cell s c0
            have ks_c1 := fun s => kw_cell s c1
            have ks_c2 := fun s => kw_cell s c2
            refine wp_region_kept (by kernel_rfl) (by kernel_rfl) ?_
            repeat (first | go_big_quiet_skip | (go_big_quiet_want; go_big_quiet_op; first | go_big_quiet_on | (apply Exists.intro; refine ⟨fun s => ?_, ?_⟩; (first | (go_at_call 21; exact call_kept (M _))); go_big_quiet_on)))
            refine wpQuiet_nil ?_
            rintro w7 ⟨⟨_, hk7⟩, rfl⟩
            clear ks_c0 ks_c1 ks_c2 c0 c1 c2
            go_wp2_with fail
            exact ⟨⟨q + 1, by omega, by go_num, kept_trans hkx hk7⟩, by simp [intOf]; omega⟩
          · obtain rfl : q = n := by omega
            go_wp2_with fail
            refine (alive02_c _).mono ?_
            rintro e w7 ⟨rfl, hk7⟩
            go_wp2_with fail
            go_ret
            exact ⟨rfl, kept_trans hk (kept_trans hkx hk7)⟩
      · generalize cycErr k xs.length ys.length = er at *
        have hcl : (cycv k xs ys).length = (cycv k xs ys).length := rfl
        generalize cycv k xs ys = cs at *
        go_enter Try.func7, Try.ntmps7
        go_wp2_with fail
        refine C1.mono ?_
        rintro e w1 ⟨v1, rfl, hown1, hk1⟩
        clear C1
        have C2 := C2 w1 (hr.kept hk1) (hs.kept hk1)
        go_wp2_with fail
        refine C2.mono ?_
        rintro e w2 ⟨v2, rfl, hown2, hk2⟩
        clear C2
        obtain ⟨A1, c1, rfl, _, _, r1⟩ := (hown1.kept hk2).rd
        obtain ⟨A2, c2, rfl, _, _, r2⟩ := hown2.rd
        clear hown1 hown2 hcl
        have S := same_c A1 A2 c1 c2 _ _ w2 r1 r2
        rw [sameL_refl] at S
        go_wp2_with fail
        refine S.mono ?_
        rintro e w3 ⟨rfl, hk3⟩
        clear S
        go_wp2_with fail
        refine (alive02_c _).mono ?_
        rintro e w4 ⟨rfl, hk4⟩
        go_wp2_with fail
        go_ret
        exact ⟨rfl, kept_trans hk1 (kept_trans hk2 (kept_trans hk3 hk4))⟩
    · have g1 : decide (200 < xs.length) = false := decide_eq_false (by omega)
      have g2 : 200 < ys.length := by omega
      have g3 : decide (200 < ys.length) = true := decide_eq_true g2
      have g4 : ¬ 200 < xs.length := by omega
      clear h h'
      go_enter Try.func7, Try.ntmps7
      go_wp2_with fail
      refine (alive02_c _).mono ?_
      rintro e w1 ⟨rfl, hk1⟩
      go_wp2_with fail
      go_ret
      exact ⟨rfl, hk1⟩
  · have g1 : 200 < xs.length := by omega
    clear h
    go_enter Try.func7, Try.ntmps7
    go_wp2_with fail
    refine (alive02_c _).mono ?_
    rintro e w1 ⟨rfl, hk1⟩
    go_wp2_with fail
    go_ret
    exact ⟨rfl, hk1⟩
end Go.Proofs.Ytkielaonclabbaa
