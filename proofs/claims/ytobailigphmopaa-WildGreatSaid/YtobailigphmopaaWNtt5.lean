/-
  Layer 2 (ntt): forward and back.
-/
import Derived.Test.YtobailigphmopaaWNtt4
namespace Go.Proofs.Ytobailigphmopaa
open Go.RowKit BG
attribute [local go_sem ↓] Go.wp_at_zero Go.wp_at_succ
set_option linter.unusedVariables false

theorem amiss_zero {k n : Int} (h : amiss k n = 0) : pr k ≠ 0 ∧ hasLog n = true := by
  unfold amiss at h
  by_cases hp : pr k = 0
  · rw [if_pos hp] at h; cases h
  · rw [if_neg hp] at h
    refine ⟨hp, ?_⟩
    cases hl : hasLog n
    · rw [hl] at h; simp at h
    · rfl
theorem rootOf {k : Int} (h : pr k ≠ 0) {L : Nat} (hL : L ≤ 12) : RootOf k L (rootm k L) := by
  have hb := pr_big h
  match L, hL with
  | 0, hL =>
    refine ⟨?_, fun M e => by cases e⟩
    have := rootm_pow h hL
    unfold pw at this
    rw [Int.toNat_natCast] at this
    show of k _ = of k 1
    rw [this, of_one h]
  | M + 1, hL =>
    refine RootOf.of_neg ?_
    have := rootm_half h hL
    unfold pw at this
    rw [Int.toNat_natCast] at this
    show of k _ = of k (-1)
    rw [this, of_eq h, show (-1 : Int) % pr k = (pr k - 1) % pr k by rw [show pr k - 1 = -1 + pr k by omega, Int.add_emod_right], Int.emod_eq_of_lt (by omega) (by omega)]
theorem pow_ne {k : Int} (h : pr k ≠ 0) {L : Nat} (hL : L ≤ 12) : of k ((2 ^ L : Nat) : Int) ≠ 0 := by
  have hb := pr_big h
  have h1 := Nat.two_pow_pos L
  have h2 : 2 ^ L ≤ 2 ^ 12 := Nat.pow_le_pow_right (by decide) hL
  rw [of_small (Int.natCast_nonneg _) (by omega)]
  omega
theorem rootv_eq {k : Int} (h : pr k ≠ 0) {L : Nat} (hL : L ≤ 12) : rootv k (L : Int) = rootm k L := by
  have : hasRoot k (L : Int) = true := by simp [hasRoot, h]; omega
  unfold rootv
  rw [if_pos this, Int.toNat_natCast]
theorem len_log {k : Int} {xs : List Int} (h : amiss k xs.length = 0) : lgv xs.length ≤ 12 ∧ xs.length = 2 ^ lgv xs.length := by
  obtain ⟨h1, h2⟩ := log_some (amiss_zero h).2
  exact ⟨h1, by exact_mod_cast h2⟩
def fwdv (k : Int) (xs : List Int) : List Int := if amiss k xs.length = 0 then mk xs.length (dft k xs.length (nth xs) (rootm k (lgv xs.length))) else []
def invv (k : Int) (xs : List Int) : List Int := if amiss k xs.length = 0 then mk xs.length (idft k xs.length (nth xs) (rootm k (lgv xs.length))) else []
theorem Own.pos {k : IntKind} {e : TypeId} {base : Nat} {w : World} {v : Value} {xs : List Int} (h : Own k e base w v xs) (h0 : 0 < xs.length) : ∃ g c, v = .slice (some ⟨g, 0, none⟩) xs.length c := by
  rcases h.2 with ⟨_, h1⟩ | ⟨g, cap, cur, he, _⟩
  · omega
  · exact ⟨g, cap, he⟩
theorem idft_nonneg (k : Int) (n : Nat) (y : Nat → Int) (w : Int) (j : Nat) : 0 ≤ idft k n y w j := (mulm_bd _ _ _).1
theorem dft_nonneg (k : Int) (n : Nat) (y : Nat → Int) (w : Int) (j : Nat) : 0 ≤ dft k n y w j := of_nonneg _ _
/-- The first q numbers are multiplied. -/
def timesTo (k : Int) (d : Nat → Int) (m : Nat → Int) (q j : Nat) : Int := if j < q then mulm k (d j) (m j) else d j
theorem timesTo_zero (k : Int) (d m : Nat → Int) (n : Nat) : mk n (timesTo k d m 0) = mk n d := mk_congr fun j _ => by unfold timesTo; rw [if_neg (by omega)]
theorem timesTo_all (k : Int) (d m : Nat → Int) (n : Nat) : mk n (timesTo k d m n) = mk n fun j => mulm k (d j) (m j) := mk_congr fun j hj => by unfold timesTo; rw [if_pos hj]
theorem timesTo_at (k : Int) (d m : Nat → Int) (q : Nat) : timesTo k d m q q = d q := by unfold timesTo; rw [if_neg (by omega)]
theorem timesTo_set (k : Int) (d m : Nat → Int) {n q : Nat} (hq : q < n) : (mk n (timesTo k d m q)).set q (mulm k (d q) (m q)) = mk n (timesTo k d m (q + 1)) := by
  rw [mk_set _ hq]
  refine mk_congr fun j _ => ?_
  unfold timesTo
  by_cases h : j = q
  · rw [if_pos h, if_pos (by omega), h]
  · rw [if_neg h]
    by_cases h2 : j < q
    · rw [if_pos h2, if_pos (by omega)]
    · rw [if_neg h2, if_neg (by omega)]
set_option maxHeartbeats 2000000 in
theorem forward_c (k : Int) (A : Option Addr) (cap : Nat) (xs : List Int) (hu : NN xs) (w : World) (hr : Rd .u64 w A xs) :
    Calls Try.prog 52 #[.int .i64 k, .slice A xs.length cap] w fun e w' => ∃ v, e = .returned (.tuple #[v, .int .i64 (amiss k xs.length)]) ∧ Own .u64 22 w.heap.size w' v (fwdv k xs) ∧ Kept w w' := by
  have hm := hr.1
  have C := check_c k xs.length
  by_cases hz : amiss k xs.length = 0
  · rw [hz] at C
    rw [hz]
    obtain ⟨hp, hlg⟩ := amiss_zero hz
    obtain ⟨hL, hx⟩ := len_log hz
    have hval : fwdv k xs = mk xs.length (dft k xs.length (nth xs) (rootm k (lgv xs.length))) := by unfold fwdv; rw [if_pos hz]
    have HV := Lib.hid hval
    have LG := log_c xs.length
    unfold Ltuple at LG
    rw [hlg] at LG
    have RT := root_c k (lgv xs.length : Nat) (by omega) (by omega)
    rw [rootv_eq hp hL] at RT
    have hw := rootOf hp hL
    have h0 := (rootm_bd k (lgv xs.length)).1
    generalize hasRoot k _ = hb at RT
    generalize rootm k (lgv xs.length) = w0 at *
    generalize lgv xs.length = L at *
    have HX := Lib.hid hx
    clear hx hz hlg hval
    go_enter Try.func52, Try.ntmps52
    go_wp2_with fail
    refine (C _).mono ?_
    rintro e w1 ⟨rfl, hk1⟩
    go_wp2_with fail
    refine (LG _).mono ?_
    rintro e w2 ⟨rfl, hk2⟩
    go_wp2_with fail
    refine (RT _).mono ?_
    rintro e w3 ⟨rfl, hk3⟩
    have hk := kept_trans hk1 (kept_trans hk2 hk3)
    go_wp2_with fail
    refine (transform_c k w0 h0 L hL hw A cap xs hu HX.out w3 (hr.kept hk)).mono ?_
    rintro e w4 ⟨v, rfl, hown, hk4⟩
    go_wp2_with fail
    exact bodyPost_ret (v := .tuple #[v, .int .i64 0]) (by simp [results, Try.results52, go_sem]) rfl ⟨_, rfl, by rw [HV.out]; exact hown.less hk.size, kept_trans hk hk4⟩
  · have hval : fwdv k xs = [] := by unfold fwdv; rw [if_neg hz]
    have HV := Lib.hid hval
    clear hval
    generalize amiss k xs.length = e at *
    have hne : ¬ e = 0 := hz
    clear hz
    go_enter Try.func52, Try.ntmps52
    go_wp2_with fail
    refine (C _).mono ?_
    rintro e w1 ⟨rfl, hk1⟩
    go_wp2_with fail
    exact bodyPost_ret (v := .tuple #[.slice none 0 0, .int .i64 e]) (by simp [results, Try.results52, go_sem]) rfl ⟨_, rfl, by rw [HV.out]; exact Own.nil _ _ _ _, hk1⟩
set_option maxHeartbeats 2000000 in
theorem inverse_c (k : Int) (A : Option Addr) (cap : Nat) (xs : List Int) (hu : NN xs) (w : World) (hr : Rd .u64 w A xs) :
    Calls Try.prog 57 #[.int .i64 k, .slice A xs.length cap] w fun e w' => ∃ v, e = .returned (.tuple #[v, .int .i64 (amiss k xs.length)]) ∧ Own .u64 22 w.heap.size w' v (invv k xs) ∧ Kept w w' := by
  have hm := hr.1
  have C := check_c k xs.length
  by_cases hz : amiss k xs.length = 0
  · rw [hz] at C
    rw [hz]
    obtain ⟨hp, hlg⟩ := amiss_zero hz
    obtain ⟨hL, hx⟩ := len_log hz
    have hval : invv k xs = mk xs.length (fun j => mulm k (dft k xs.length (nth xs) (invm k (rootm k (lgv xs.length))) j) (invm k (xs.length : Nat))) := by unfold invv; rw [if_pos hz]; rfl
    have HV := Lib.hid hval
    have LG := log_c xs.length
    unfold Ltuple at LG
    rw [hlg] at LG
    have RT := root_c k (lgv xs.length : Nat) (by omega) (by omega)
    rw [rootv_eq hp hL] at RT
    have hw0 := rootOf hp hL
    have h0 := (rootm_bd k (lgv xs.length)).1
    have hne := rootm_ne hp hL
    have hw : RootOf k (lgv xs.length) (invm k (rootm k (lgv xs.length))) := hw0.inv (by unfold Cong; rw [mul_invm hne, of_one hp])
    have I1 := inv_c k (rootm k (lgv xs.length)) h0
    have I2 := inv_c k (xs.length : Nat) (Int.natCast_nonneg _)
    have h1 := (invm_bd k (rootm k (lgv xs.length))).1
    have h2 := (invm_bd k (xs.length : Nat)).1
    have hpos : 0 < xs.length := by rw [hx]; exact Nat.two_pow_pos _
    have hmax : xs.length ≤ 4096 := by rw [hx]; exact Nat.pow_le_pow_right (by decide) hL
    generalize hasRoot k _ = hb at RT
    generalize hasInv k _ = hb1 at I1
    generalize hasInv k _ = hb2 at I2
    generalize invm k (rootm k (lgv xs.length)) = v0 at *
    generalize invm k (xs.length : Nat) = m0 at *
    generalize rootm k (lgv xs.length) = w0 at *
    generalize lgv xs.length = L at *
    have HX := Lib.hid hx
    clear hx hw0 hne hlg hz hval
    go_enter Try.func57, Try.ntmps57
    go_wp2_with fail
    refine (C _).mono ?_
    rintro e w1 ⟨rfl, hk1⟩
    go_wp2_with fail
    refine (LG _).mono ?_
    rintro e w2 ⟨rfl, hk2⟩
    go_wp2_with fail
    refine (RT _).mono ?_
    rintro e w3 ⟨rfl, hk3⟩
    go_wp2_with fail
    refine (I1 _).mono ?_
    rintro e w4 ⟨rfl, hk4⟩
    go_wp2_with fail
    refine (I2 _).mono ?_
    rintro e w5 ⟨rfl, hk5⟩
    have hk := kept_trans hk1 (kept_trans hk2 (kept_trans hk3 (kept_trans hk4 hk5)))
    clear hk1 hk2 hk3 hk4 hk5 C LG RT I1 I2
    go_wp2_with fail
    refine (transform_c k v0 h1 L hL hw A cap xs hu HX.out w5 (hr.kept hk)).mono ?_
    rintro e w6 ⟨v, rfl, hown, hk6⟩
    replace hown := hown.less hk.size
    replace hk := kept_trans hk hk6
    obtain ⟨g, c, rfl⟩ := hown.pos (by rw [mk_length]; exact hpos)
    have hown2 : w6.ownsRow w.heap.size 22 1 (.slice (some ⟨g, 0, none⟩) xs.length c) xs.length ((mk xs.length (timesTo k (dft k xs.length (nth xs) v0) (fun _ => m0) 0)).map (Value.int .u64)) := by
      rw [timesTo_zero]
      have h := hown
      unfold Own at h
      rwa [mk_length] at h
    rw [mk_length]
    clear hown hw hk6
    have hd0 := dft_nonneg k xs.length (nth xs) v0
    have hall := timesTo_all k (dft k xs.length (nth xs) v0) (fun _ => m0) xs.length
    rw [← hall] at HV
    clear hall
    generalize dft k xs.length (nth xs) v0 = d at *
    clear hu
    generalize hn : xs.length = n at *
    go_wp2_with fail
    go_loopw [56] (fun i wr => ∃ q : Nat, q ≤ n ∧ i = .int .i64 q ∧ wr.ownsRow w.heap.size 22 1 (.slice (some ⟨g, 0, none⟩) n c) n ((mk n (timesTo k d (fun _ => m0) q)).map (Value.int .u64)) ∧ Kept w wr) (fun i _ => n - (intOf i).toNat)
    case atStart => exact ⟨0, Nat.zero_le _, rfl, hown2, hk⟩
    case round =>
      clear hown2 hk
      obtain ⟨q, hq, rfl, hown, hk⟩ := hrel
      by_cases hlt : q < n
      · have c0 := World.ownsRow.cellAt hown q (by omega)
        rw [List.getElem?_map, List.getElem?_eq_getElem (by rw [mk_length]; omega), Option.map_some, ← nth_lt (by rw [mk_length]; omega), nth_mk hlt, timesTo_at] at c0
        have hset := timesTo_set k d (fun _ => m0) hlt
        have M := mul_c k (d q) m0 (hd0 q) h2
        generalize mulm k (d q) m0 = y at *
        generalize d q = x at *
        have HS := Lib.hid hset
        clear hset
        have ea : (⟨g, 0, none⟩ : Addr).add q = ⟨g, q, none⟩ := by unfold Addr.add; split <;> simp_all
        go_wp2_with fail
        refine (M _).mono ?_
        rintro e w7 ⟨rfl, hk7⟩
        have hownA : w7.ownsRow w.heap.size 22 1 (.slice (some ⟨g, 0, none⟩) n c) n ((mk n (timesTo k d (fun _ => m0) q)).map (Value.int .u64)) := rowKept hown hk7
        have hkA := kept_trans hk hk7
        have d0 := World.ownsRow.cellAt hownA q (by omega)
        rw [List.getElem?_map, List.getElem?_eq_getElem (by rw [mk_length]; omega), Option.map_some] at d0
        have f0 := World.ownsRow.frozenAt hownA q
        have S := World.ownsRow.stored hownA q (.int .u64 y)
        rw [← List.map_set, HS.out] at S
        generalize (mk n (timesTo k d (fun _ => m0) q))[q]'(by rw [mk_length]; omega) = old at *
        clear hown hk hk7 c0
        go_wp2_with fail
        exact ⟨⟨q + 1, by omega, by go_num, S.1, kept_grown hkA hownA (Nat.le_refl _) S.2⟩, by simp [intOf]; omega⟩
      · obtain rfl : q = n := by omega
        go_wp2_with fail
        have hO : Own .u64 22 w.heap.size wr (.slice (some ⟨g, 0, none⟩) q c) (mk q (timesTo k d (fun _ => m0) q)) := by
          unfold Own
          rw [mk_length]
          exact hown
        exact bodyPost_ret (v := .tuple #[.slice (some ⟨g, 0, none⟩) q c, .int .i64 0]) (by simp [results, Try.results57, go_sem]) rfl ⟨_, rfl, by rw [HV.out]; exact hO, hk⟩
  · have hval : invv k xs = [] := by unfold invv; rw [if_neg hz]
    have HV := Lib.hid hval
    clear hval
    generalize amiss k xs.length = e at *
    have hne : ¬ e = 0 := hz
    clear hz
    go_enter Try.func57, Try.ntmps57
    go_wp2_with fail
    refine (C _).mono ?_
    rintro e w1 ⟨rfl, hk1⟩
    go_wp2_with fail
    exact bodyPost_ret (v := .tuple #[.slice none 0 0, .int .i64 e]) (by simp [results, Try.results57, go_sem]) rfl ⟨_, rfl, by rw [HV.out]; exact Own.nil _ _ _ _, hk1⟩
end Go.Proofs.Ytobailigphmopaa
