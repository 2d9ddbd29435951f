/-
  Texts of one claim, joined: WNtt5, WNtt6, ConvP, WConv1, WConv2, WBlk1, WBlk2, WBlk3, ConvQ, WConv3, WConv6, WConv7.
-/
import Derived.Lib.AppendZerosOnto
import Derived.ArgAppend
import Derived.Deep.RegionLaw
import Derived.Deep.AppendLies
import Derived.Laws.AppendOwnNone
import Derived.Test.YtdejablhpljdfaaGreatQ04
import Derived.Test.YtdejablhpljdfaaGreatQ05
import Derived.Test.YtdejablhpljdfaaGreatQ02
import Derived.Test.YtdejablhpljdfaaGreatQ01
namespace Go.Proofs.YtdejablhpljdfaaGreat
open Go.RowKit BG
attribute [local go_sem ↓] Go.wp_at_zero Go.wp_at_succ
set_option linter.unusedVariables false
theorem amiss_zero {k n : Int} (h : amiss k n = 0) : pr k ≠ 0 ∧ hasLog n = true := by
  unfold amiss at h
  by_cases hp : pr k = 0
  · rw [if_pos hp] at h; cases h
  · rw [if_neg hp] at h
    refine ⟨hp, ?_⟩
    cases hl : hasLog n
    · rw [hl] at h; simp at h
    · rfl
theorem rootOf {k : Int} (h : pr k ≠ 0) {L : Nat} (hL : L ≤ 12) : RootOf k L (rootm k L) := by
  have hb := pr_big h
  match L, hL with
  | 0, hL =>
    refine ⟨?_, fun M e => by cases e⟩
    have := rootm_pow h hL
    unfold pw at this
    rw [Int.toNat_natCast] at this
    show of k _ = of k 1
    rw [this, of_one h]
  | M + 1, hL =>
    refine RootOf.of_neg ?_
    have := rootm_half h hL
    unfold pw at this
    rw [Int.toNat_natCast] at this
    show of k _ = of k (-1)
    rw [this, of_eq h, show (-1 : Int) % pr k = (pr k - 1) % pr k by rw [show pr k - 1 = -1 + pr k by omega, Int.add_emod_right], Int.emod_eq_of_lt (by omega) (by omega)]
theorem pow_ne {k : Int} (h : pr k ≠ 0) {L : Nat} (hL : L ≤ 12) : of k ((2 ^ L : Nat) : Int) ≠ 0 := by
  have hb := pr_big h
  have h1 := Nat.two_pow_pos L
  have h2 : 2 ^ L ≤ 2 ^ 12 := Nat.pow_le_pow_right (by decide) hL
  rw [of_small (Int.natCast_nonneg _) (by omega)]
  omega
theorem rootv_eq {k : Int} (h : pr k ≠ 0) {L : Nat} (hL : L ≤ 12) : rootv k (L : Int) = rootm k L := by
  have : hasRoot k (L : Int) = true := by simp [hasRoot, h]; omega
  unfold rootv
  rw [if_pos this, Int.toNat_natCast]
theorem len_log {k : Int} {xs : List Int} (h : amiss k xs.length = 0) : lgv xs.length ≤ 12 ∧ xs.length = 2 ^ lgv xs.length := by
  obtain ⟨h1, h2⟩ := log_some (amiss_zero h).2
  exact ⟨h1, by exact_mod_cast h2⟩
def fwdv (k : Int) (xs : List Int) : List Int := if amiss k xs.length = 0 then mk xs.length (dft k xs.length (nth xs) (rootm k (lgv xs.length))) else []
def invv (k : Int) (xs : List Int) : List Int := if amiss k xs.length = 0 then mk xs.length (idft k xs.length (nth xs) (rootm k (lgv xs.length))) else []
theorem Own.pos {k : IntKind} {e : TypeId} {base : Nat} {w : World} {v : Value} {xs : List Int} (h : Own k e base w v xs) (h0 : 0 < xs.length) : ∃ g c, v = .slice (some ⟨g, 0, none⟩) xs.length c := by
  rcases h.2 with ⟨_, h1⟩ | ⟨g, cap, cur, he, _⟩
  · omega
  · exact ⟨g, cap, he⟩
theorem dft_nonneg (k : Int) (n : Nat) (y : Nat → Int) (w : Int) (j : Nat) : 0 ≤ dft k n y w j := of_nonneg _ _
def timesTo (k : Int) (d : Nat → Int) (m : Nat → Int) (q j : Nat) : Int := if j < q then mulm k (d j) (m j) else d j
theorem timesTo_zero (k : Int) (d m : Nat → Int) (n : Nat) : mk n (timesTo k d m 0) = mk n d := mk_congr fun j _ => by unfold timesTo; rw [if_neg (by omega)]
theorem timesTo_all (k : Int) (d m : Nat → Int) (n : Nat) : mk n (timesTo k d m n) = mk n fun j => mulm k (d j) (m j) := mk_congr fun j hj => by unfold timesTo; rw [if_pos hj]
theorem timesTo_at (k : Int) (d m : Nat → Int) (q : Nat) : timesTo k d m q q = d q := by unfold timesTo; rw [if_neg (by omega)]
theorem timesTo_set (k : Int) (d m : Nat → Int) {n q : Nat} (hq : q < n) : (mk n (timesTo k d m q)).set q (mulm k (d q) (m q)) = mk n (timesTo k d m (q + 1)) := by
  rw [mk_set _ hq]
  refine mk_congr fun j _ => ?_
  unfold timesTo
  by_cases h : j = q
  · rw [if_pos h, if_pos (by omega), h]
  · rw [if_neg h]
    by_cases h2 : j < q
    · rw [if_pos h2, if_pos (by omega)]
    · rw [if_neg h2, if_neg (by omega)]
set_option maxHeartbeats 2000000 in
theorem forward_c (k : Int) (A : Option Addr) (cap : Nat) (xs : List Int) (hu : NN xs) (w : World) (hr : Rd .u64 w A xs) :
    Calls Tryz.prog 99 #[.int .i64 k, .slice A xs.length cap] w fun e w' => ∃ v, e = .returned (.tuple #[v, .int .i64 (amiss k xs.length)]) ∧ Own .u64 108 w.heap.size w' v (fwdv k xs) ∧ Kept w w' := by
  have hm := hr.1
  have C := check_c k xs.length
  by_cases hz : amiss k xs.length = 0
  · rw [hz] at C
    rw [hz]
    obtain ⟨hp, hlg⟩ := amiss_zero hz
    obtain ⟨hL, hx⟩ := len_log hz
    have hval : fwdv k xs = mk xs.length (dft k xs.length (nth xs) (rootm k (lgv xs.length))) := by unfold fwdv; rw [if_pos hz]
    have HV := Lib.hid hval
    have LG := log_c xs.length
    unfold Ltuple at LG
    rw [hlg] at LG
    have RT := root_c k (lgv xs.length : Nat) (by omega) (by omega)
    rw [rootv_eq hp hL] at RT
    have hw := rootOf hp hL
    have h0 := (rootm_bd k (lgv xs.length)).1
    generalize hasRoot k _ = hb at RT
    generalize rootm k (lgv xs.length) = w0 at *
    generalize lgv xs.length = L at *
    have HX := Lib.hid hx
    clear hx hz hlg hval
    go_enter Tryz.func99, Tryz.ntmps99
    go_wp2_with fail
    refine (C _).mono ?_
    rintro e w1 ⟨rfl, hk1⟩
    go_wp2_with fail
    refine (LG _).mono ?_
    rintro e w2 ⟨rfl, hk2⟩
    go_wp2_with fail
    refine (RT _).mono ?_
    rintro e w3 ⟨rfl, hk3⟩
    have hk := kept_trans hk1 (kept_trans hk2 hk3)
    go_wp2_with fail
    refine (transform_c k w0 h0 L hL hw A cap xs hu HX.out w3 (hr.kept hk)).mono ?_
    rintro e w4 ⟨v, rfl, hown, hk4⟩
    go_wp2_with fail
    exact bodyPost_ret (v := .tuple #[v, .int .i64 0]) (by simp [results, Tryz.results99, go_sem]) rfl ⟨_, rfl, by rw [HV.out]; exact hown.less hk.size, kept_trans hk hk4⟩
  · have hval : fwdv k xs = [] := by unfold fwdv; rw [if_neg hz]
    have HV := Lib.hid hval
    clear hval
    generalize amiss k xs.length = e at *
    have hne : ¬ e = 0 := hz
    clear hz
    go_enter Tryz.func99, Tryz.ntmps99
    go_wp2_with fail
    refine (C _).mono ?_
    rintro e w1 ⟨rfl, hk1⟩
    go_wp2_with fail
    exact bodyPost_ret (v := .tuple #[.slice none 0 0, .int .i64 e]) (by simp [results, Tryz.results99, go_sem]) rfl ⟨_, rfl, by rw [HV.out]; exact Own.nil _ _ _ _, hk1⟩
set_option maxHeartbeats 2000000 in
theorem inverse_c (k : Int) (A : Option Addr) (cap : Nat) (xs : List Int) (hu : NN xs) (w : World) (hr : Rd .u64 w A xs) :
    Calls Tryz.prog 104 #[.int .i64 k, .slice A xs.length cap] w fun e w' => ∃ v, e = .returned (.tuple #[v, .int .i64 (amiss k xs.length)]) ∧ Own .u64 108 w.heap.size w' v (invv k xs) ∧ Kept w w' := by
  have hm := hr.1
  have C := check_c k xs.length
  by_cases hz : amiss k xs.length = 0
  · rw [hz] at C
    rw [hz]
    obtain ⟨hp, hlg⟩ := amiss_zero hz
    obtain ⟨hL, hx⟩ := len_log hz
    have hval : invv k xs = mk xs.length (fun j => mulm k (dft k xs.length (nth xs) (invm k (rootm k (lgv xs.length))) j) (invm k (xs.length : Nat))) := by unfold invv; rw [if_pos hz]; rfl
    have HV := Lib.hid hval
    have LG := log_c xs.length
    unfold Ltuple at LG
    rw [hlg] at LG
    have RT := root_c k (lgv xs.length : Nat) (by omega) (by omega)
    rw [rootv_eq hp hL] at RT
    have hw0 := rootOf hp hL
    have h0 := (rootm_bd k (lgv xs.length)).1
    have hne := rootm_ne hp hL
    have hw : RootOf k (lgv xs.length) (invm k (rootm k (lgv xs.length))) := hw0.inv (by unfold Cong; rw [mul_invm hne, of_one hp])
    have I1 := inv_c k (rootm k (lgv xs.length)) h0
    have I2 := inv_c k (xs.length : Nat) (Int.natCast_nonneg _)
    have h1 := (invm_bd k (rootm k (lgv xs.length))).1
    have h2 := (invm_bd k (xs.length : Nat)).1
    have hpos : 0 < xs.length := by rw [hx]; exact Nat.two_pow_pos _
    have hmax : xs.length ≤ 4096 := by rw [hx]; exact Nat.pow_le_pow_right (by decide) hL
    generalize hasRoot k _ = hb at RT
    generalize hasInv k _ = hb1 at I1
    generalize hasInv k _ = hb2 at I2
    generalize invm k (rootm k (lgv xs.length)) = v0 at *
    generalize invm k (xs.length : Nat) = m0 at *
    generalize rootm k (lgv xs.length) = w0 at *
    generalize lgv xs.length = L at *
    have HX := Lib.hid hx
    clear hx hw0 hne hlg hz hval
    go_enter Tryz.func104, Tryz.ntmps104
    go_wp2_with fail
    refine (C _).mono ?_
    rintro e w1 ⟨rfl, hk1⟩
    go_wp2_with fail
    refine (LG _).mono ?_
    rintro e w2 ⟨rfl, hk2⟩
    go_wp2_with fail
    refine (RT _).mono ?_
    rintro e w3 ⟨rfl, hk3⟩
    go_wp2_with fail
    refine (I1 _).mono ?_
    rintro e w4 ⟨rfl, hk4⟩
    go_wp2_with fail
    refine (I2 _).mono ?_
    rintro e w5 ⟨rfl, hk5⟩
    have hk := kept_trans hk1 (kept_trans hk2 (kept_trans hk3 (kept_trans hk4 hk5)))
    clear hk1 hk2 hk3 hk4 hk5 C LG RT I1 I2
    go_wp2_with fail
    refine (transform_c k v0 h1 L hL hw A cap xs hu HX.out w5 (hr.kept hk)).mono ?_
    rintro e w6 ⟨v, rfl, hown, hk6⟩
    replace hown := hown.less hk.size
    replace hk := kept_trans hk hk6
    obtain ⟨g, c, rfl⟩ := hown.pos (by rw [mk_length]; exact hpos)
    have hown2 : w6.ownsRow w.heap.size 108 1 (.slice (some ⟨g, 0, none⟩) xs.length c) xs.length ((mk xs.length (timesTo k (dft k xs.length (nth xs) v0) (fun _ => m0) 0)).map (Value.int .u64)) := by
      rw [timesTo_zero]
      have h := hown
      unfold Own at h
      rwa [mk_length] at h
    rw [mk_length]
    clear hown hw hk6
    have hd0 := dft_nonneg k xs.length (nth xs) v0
    have hall := timesTo_all k (dft k xs.length (nth xs) v0) (fun _ => m0) xs.length
    rw [← hall] at HV
    clear hall
    generalize dft k xs.length (nth xs) v0 = d at *
    clear hu
    generalize hn : xs.length = n at *
    go_wp2_with fail
    go_loopw [56] (fun i wr => ∃ q : Nat, q ≤ n ∧ i = .int .i64 q ∧ wr.ownsRow w.heap.size 108 1 (.slice (some ⟨g, 0, none⟩) n c) n ((mk n (timesTo k d (fun _ => m0) q)).map (Value.int .u64)) ∧ Kept w wr) (fun i _ => n - (intOf i).toNat)
    case atStart => exact ⟨0, Nat.zero_le _, rfl, hown2, hk⟩
    case round =>
      clear hown2 hk
      obtain ⟨q, hq, rfl, hown, hk⟩ := hrel
      by_cases hlt : q < n
      · have c0 := World.ownsRow.cellAt hown q (by omega)
        rw [List.getElem?_map, List.getElem?_eq_getElem (by rw [mk_length]; omega), Option.map_some, ← nth_lt (by rw [mk_length]; omega), nth_mk hlt, timesTo_at] at c0
        have hset := timesTo_set k d (fun _ => m0) hlt
        have M := mul_c k (d q) m0 (hd0 q) h2
        generalize mulm k (d q) m0 = y at *
        generalize d q = x at *
        have HS := Lib.hid hset
        clear hset
        have ea : (⟨g, 0, none⟩ : Addr).add q = ⟨g, q, none⟩ := by unfold Addr.add; split <;> simp_all
        go_wp2_with fail
        refine (M _).mono ?_
        rintro e w7 ⟨rfl, hk7⟩
        have hownA : w7.ownsRow w.heap.size 108 1 (.slice (some ⟨g, 0, none⟩) n c) n ((mk n (timesTo k d (fun _ => m0) q)).map (Value.int .u64)) := rowKept hown hk7
        have hkA := kept_trans hk hk7
        have d0 := World.ownsRow.cellAt hownA q (by omega)
        rw [List.getElem?_map, List.getElem?_eq_getElem (by rw [mk_length]; omega), Option.map_some] at d0
        have f0 := World.ownsRow.frozenAt hownA q
        have S := World.ownsRow.stored hownA q (.int .u64 y)
        rw [← List.map_set, HS.out] at S
        generalize (mk n (timesTo k d (fun _ => m0) q))[q]'(by rw [mk_length]; omega) = old at *
        clear hown hk hk7 c0
        go_wp2_with fail
        exact ⟨⟨q + 1, by omega, by go_num, S.1, kept_grown hkA hownA (Nat.le_refl _) S.2⟩, by simp [intOf]; omega⟩
      · obtain rfl : q = n := by omega
        go_wp2_with fail
        have hO : Own .u64 108 w.heap.size wr (.slice (some ⟨g, 0, none⟩) q c) (mk q (timesTo k d (fun _ => m0) q)) := by
          unfold Own
          rw [mk_length]
          exact hown
        exact bodyPost_ret (v := .tuple #[.slice (some ⟨g, 0, none⟩) q c, .int .i64 0]) (by simp [results, Tryz.results104, go_sem]) rfl ⟨_, rfl, by rw [HV.out]; exact hO, hk⟩
  · have hval : invv k xs = [] := by unfold invv; rw [if_neg hz]
    have HV := Lib.hid hval
    clear hval
    generalize amiss k xs.length = e at *
    have hne : ¬ e = 0 := hz
    clear hz
    go_enter Tryz.func104, Tryz.ntmps104
    go_wp2_with fail
    refine (C _).mono ?_
    rintro e w1 ⟨rfl, hk1⟩
    go_wp2_with fail
    exact bodyPost_ret (v := .tuple #[.slice none 0 0, .int .i64 e]) (by simp [results, Tryz.results104, go_sem]) rfl ⟨_, rfl, by rw [HV.out]; exact Own.nil _ _ _ _, hk1⟩
end Go.Proofs.YtdejablhpljdfaaGreat
namespace Go.Proofs.YtdejablhpljdfaaGreat
open Go.RowKit BG
attribute [local go_sem ↓] Go.wp_at_zero Go.wp_at_succ
set_option linter.unusedVariables false
theorem invv_prod {k : Int} {xs ys : List Int} (hl : ys.length = xs.length) (h : amiss k xs.length = 0) : invv k (mk xs.length fun j => mulm k (dft k xs.length (nth xs) (rootm k (lgv xs.length)) j) (dft k xs.length (nth ys) (rootm k (lgv xs.length)) j)) = mk xs.length fun t => of k (cyc xs.length (nth xs) (nth ys) t) := by
  obtain ⟨hp, hlg⟩ := amiss_zero h
  obtain ⟨hL, hx⟩ := len_log h
  unfold invv
  rw [mk_length, if_pos h]
  refine mk_congr fun t ht => ?_
  have h1 := idft_mul (rootOf hp hL) (rootm_ne hp hL) (pow_ne hp hL) (nth xs) (nth ys) t (by rw [← hx]; exact ht)
  rw [← hx] at h1
  rw [← h1]
  unfold idft
  rw [dft_cong (y := fun j => mulm k (dft k xs.length (nth xs) (rootm k (lgv xs.length)) j) (dft k xs.length (nth ys) (rootm k (lgv xs.length)) j)) (fun j hj => by rw [nth_mk hj]; exact Cong.refl _ _) (Cong.refl _ _)]
theorem fwdv_eq {k : Int} {xs : List Int} (h : amiss k xs.length = 0) : fwdv k xs = mk xs.length (dft k xs.length (nth xs) (rootm k (lgv xs.length))) := by unfold fwdv; rw [if_pos h]
end Go.Proofs.YtdejablhpljdfaaGreat
namespace Go.Proofs.YtdejablhpljdfaaGreat
open Go.RowKit BG
set_option linter.unusedVariables false
def grT (f : Nat → Int) : Nat → Int
  | 0 => 0
  | j + 1 => max (grT f j) (f j)
def greatest (xs : List Int) : Int := grT (nth xs) xs.length
theorem grT_nonneg (f : Nat → Int) : ∀ n, 0 ≤ grT f n := by
  intro n
  induction n with
  | zero => exact Int.le_refl 0
  | succ n ih => show 0 ≤ max (grT f n) (f n); omega
theorem grT_le {f : Nat → Int} {m : Int} (h0 : 0 ≤ m) (h : ∀ j, f j ≤ m) : ∀ n, grT f n ≤ m := by
  intro n
  induction n with
  | zero => exact h0
  | succ n ih => have := h n; show max (grT f n) (f n) ≤ m; omega
theorem le_grT {f : Nat → Int} : ∀ {n j : Nat}, j < n → f j ≤ grT f n := by
  intro n
  induction n with
  | zero => intro j h; omega
  | succ n ih =>
    intro j h
    show f j ≤ max (grT f n) (f n)
    rcases Nat.lt_or_ge j n with h' | h'
    · have := ih h'; omega
    · obtain rfl : j = n := by omega
      omega
theorem greatest_bd {xs : List Int} (hu : U64 xs) : 0 ≤ greatest xs ∧ greatest xs ≤ 18446744073709551615 := ⟨grT_nonneg _ _, grT_le (by decide) (fun j => (hu j).2) _⟩
theorem grT_is {f : Nat → Int} {n : Nat} {m : Int} (h0 : 0 ≤ m) (h : ∀ j, j < n → f j ≤ m) (he : m = 0 ∨ ∃ j, j < n ∧ f j = m) : grT f n = m := by
  have h1 : grT f n ≤ m := by
    clear he
    induction n with
    | zero => exact h0
    | succ n ih => have a := ih fun j hj => h j (by omega); have b := h n (by omega); show max (grT f n) (f n) ≤ m; omega
  have h2 := grT_nonneg f n
  rcases he with rfl | ⟨j, hj, e⟩
  · omega
  · have := le_grT (f := f) hj; omega
theorem over_no {x y : Int} (hx : 0 ≤ x) (hy : 0 ≤ y) (h : ¬ (x ≠ 0 ∧ 18446744073709551615 / x < y)) : x * y ≤ 18446744073709551615 := by
  by_cases h0 : x = 0
  · rw [h0, Int.zero_mul]; decide
  · have h1 : y ≤ 18446744073709551615 / x := by omega
    have h2 := Int.mul_le_mul_of_nonneg_left h1 hx
    have h3 := Int.mul_ediv_self_le (x := 18446744073709551615) h0
    omega
def cs (a b : Nat → Int) (la lb t : Nat) : Int := sumTo la fun j => if j ≤ t ∧ t - j < lb then a j * b (t - j) else 0
theorem sumTo_nonneg {n : Nat} {f : Nat → Int} (h : ∀ i, i < n → 0 ≤ f i) : 0 ≤ sumTo n f := by
  induction n with
  | zero => exact Int.le_refl 0
  | succ n ih => have a := ih fun i hi => h i (by omega); have b := h n (by omega); show 0 ≤ sumTo n f + f n; omega
theorem sumTo_le {n : Nat} {f : Nat → Int} {m : Int} (h : ∀ i, i < n → f i ≤ m) : sumTo n f ≤ m * n := by
  induction n with
  | zero => show 0 ≤ m * 0; omega
  | succ n ih =>
    have a := ih fun i hi => h i (by omega)
    have b := h n (by omega)
    show sumTo n f + f n ≤ _
    rw [Int.natCast_add, Int.mul_add]
    omega
def sl (p t : Nat → Int) (m i : Nat) : Int := sumTo m fun j => p j * t (i + j)
def slidev (p t : Nat → Int) (m n : Nat) : List Int := mk (n - m + 1) fun i => sl p t m i % 18446744073709551616
def Ans (l : List Int) (er : Int) (w : World) (e : Ending) (w' : World) : Prop := ∃ A c, e = .returned (.tuple #[.slice A l.length c, .int .i64 er]) ∧ Rd .u64 w' A l ∧ Kept w w' ∧ l.length ≤ c ∧ c ≤ 9223372036854775807
theorem le_greatest {xs : List Int} {j : Nat} (h : j < xs.length) : nth xs j ≤ greatest xs := le_grT h
def widev (xs : List Int) (size : Nat) : List Int := mk size fun i => if i < xs.length then nth xs i else 0
theorem widev_length (xs : List Int) (size : Nat) : (widev xs size).length = size := mk_length _ _
theorem widev_nn {xs : List Int} (hu : U64 xs) (size : Nat) : NN (widev xs size) := nn_mk fun j _ => by split; exact (hu j).1; exact Int.le_refl 0
theorem rows_sums {n : Nat} {f : Nat → Int} (h : ∀ t, t < n → 0 ≤ f t ∧ f t ≤ 18446744073709551615) : rowsOk (mk n fun t => of 0 (f t)) (mk n fun t => of 1 (f t)) (mk n fun t => of 2 (f t)) = true ∧ rowsv (mk n fun t => of 0 (f t)) (mk n fun t => of 1 (f t)) (mk n fun t => of 2 (f t)) = mk n f := by
  have hk : rowsOk (mk n fun t => of 0 (f t)) (mk n fun t => of 1 (f t)) (mk n fun t => of 2 (f t)) = true := by
    simp only [rowsOk, decide_eq_true_eq]
    refine ⟨by rw [mk_length, mk_length], by rw [mk_length, mk_length], fun j hj => ?_⟩
    rw [mk_length] at hj
    rw [nth_mk hj, nth_mk hj, nth_mk hj]
    exact fits_of (h j hj).1 (h j hj).2 (cong_of _ _) (cong_of _ _) (cong_of _ _)
  refine ⟨hk, ?_⟩
  unfold rowsv
  rw [if_pos hk, mk_length]
  refine mk_congr fun j hj => ?_
  rw [nth_mk hj, nth_mk hj, nth_mk hj]
  exact num_of (h j hj).1 (h j hj).2 (cong_of _ _) (cong_of _ _) (cong_of _ _)
theorem u64_of (k : Int) (n : Nat) (f : Nat → Int) : U64 (mk n fun j => of k (f j)) := by
  intro j
  by_cases hj : j < n
  · rw [nth_mk hj]; have := of_bd k (f j); omega
  · unfold nth; rw [List.getD_eq_getElem?_getD, List.getElem?_eq_none (by rw [mk_length]; omega)]; exact ⟨Int.le_refl 0, by decide⟩
end Go.Proofs.YtdejablhpljdfaaGreat
namespace Go.Proofs.YtdejablhpljdfaaGreat
open Go.RowKit BG
attribute [local go_sem ↓] Go.wp_at_zero Go.wp_at_succ
set_option linter.unusedVariables false
section
variable {P : Program} (w : World)
theorem run_max_at (ts : Array TypeId) (t : TypeId) (k k' : IntKind) (x y : Int) : (Builtin.max_ ts t #[.int k x, .int k' y]).run P w = .ok (.int k (max x y)) w := by
  rw [Go.run_max_int2, show (if y > x then y else x) = max x y by split <;> omega]
theorem run_min_at (ts : Array TypeId) (t : TypeId) (k k' : IntKind) (x y : Int) : (Builtin.min_ ts t #[.int k x, .int k' y]).run P w = .ok (.int k (min x y)) w := by
  rw [Go.run_min_int2, show (if y < x then y else x) = min x y by split <;> omega]
end
attribute [local go_sem ↓] run_min_at run_max_at
theorem greatest_c (A : Option Addr) (cap : Nat) (xs : List Int) (hu : U64 xs) (w : World) (hr : Rd .u64 w A xs) : Calls Tryz.prog 155 #[.slice A xs.length cap] w (Ret (.int .u64 (greatest xs)) w) := by
  have hm := hr.1
  unfold greatest
  generalize hn : xs.length = n at *
  go_enter Tryz.func155, Tryz.ntmps155
  go_wp2_with fail
  go_loopw [3, 8] (fun o i wr => ∃ q : Nat, q ≤ n ∧ i = .int .i64 q ∧ o = .int .u64 (grT (nth xs) q) ∧ Kept w wr) (fun _ i _ => n - (intOf i).toNat)
  case atStart => exact ⟨0, Nat.zero_le _, rfl, rfl, kept_refl _⟩
  case round =>
    obtain ⟨q, hq, rfl, rfl, hk⟩ := hrel
    by_cases hlt : q < n
    · obtain ⟨ad, rfl, c0⟩ := (hr.kept hk).at_ (j := q) (by omega)
      have hs : max (grT (nth xs) q) (nth xs q) = grT (nth xs) (q + 1) := rfl
      generalize hg' : grT (nth xs) (q + 1) = g' at *
      have HG := Lib.hid hg'
      clear hg'
      generalize grT (nth xs) q = g at *
      generalize nth xs q = x at *
      have HS := Lib.hid hs
      clear hs
      go_wp2_with fail
      exact ⟨⟨q + 1, by omega, by go_num, by rw [HS.out, HG.out], hk⟩, by simp [intOf]; omega⟩
    · obtain rfl : q = n := by omega
      go_wp2_with fail
      go_ret
      exact ⟨rfl, hk⟩
def ovr (a b : Int) : Bool := decide (a ≠ 0 ∧ 18446744073709551615 / a < b)
end Go.Proofs.YtdejablhpljdfaaGreat
namespace Go.Proofs.YtdejablhpljdfaaGreat
open Go.RowKit BG
attribute [local go_sem ↓] Go.wp_at_zero Go.wp_at_succ run_min_at run_max_at
set_option linter.unusedVariables false
theorem ovr_no {x y : Int} (hx : 0 ≤ x) (hy : 0 ≤ y) (h : ovr x y = false) : x * y ≤ 18446744073709551615 := over_no hx hy (of_decide_eq_false h)
end Go.Proofs.YtdejablhpljdfaaGreat
namespace Go.Proofs.YtdejablhpljdfaaGreat
open Go.RowKit BG
attribute [local go_sem ↓] Go.wp_at_zero Go.wp_at_succ run_min_at run_max_at
set_option linter.unusedVariables false
def slb (m n : Int) : Bool := decide (1 ≤ m ∧ m ≤ n)
def szb (m size : Int) : Bool := hasLog size && decide (m ≤ size)
theorem szb_bd {m size : Int} (h : szb m size = true) : 1 ≤ size ∧ size ≤ 4096 ∧ m ≤ size := by
  unfold szb at h
  rw [Bool.and_eq_true] at h
  obtain ⟨h1, h2⟩ := log_some h.1
  have h3 : 2 ^ lgv size ≤ 2 ^ 12 := Nat.pow_le_pow_right (by decide) h1
  have h4 := Nat.two_pow_pos (lgv size)
  have h5 : m ≤ size := of_decide_eq_true h.2
  omega
theorem slides_c (m n : Int) (w : World) : Calls Tryz.prog 98 #[.int .i64 m, .int .i64 n] w (Ret (.bool (slb m n)) w) := by
  by_cases h1 : 1 ≤ m
  · by_cases h2 : m ≤ n
    · rw [show slb m n = true from decide_eq_true ⟨h1, h2⟩]
      go_enter Tryz.func98, Tryz.ntmps98
      go_wp2_with fail
      go_ret
      exact ⟨rfl, kept_refl _⟩
    · rw [show slb m n = false from decide_eq_false fun h => h2 h.2]
      go_enter Tryz.func98, Tryz.ntmps98
      go_wp2_with fail
      go_ret
      exact ⟨rfl, kept_refl _⟩
  · rw [show slb m n = false from decide_eq_false fun h => h1 h.1]
    have hd : decide (1 ≤ m) = false := decide_eq_false h1
    go_enter Tryz.func98, Tryz.ntmps98
    go_wp2_with fail
    go_ret
    exact ⟨rfl, kept_refl _⟩
theorem sized_c (m size : Int) (w : World) : Calls Tryz.prog 154 #[.int .i64 m, .int .i64 size] w (Ret (.bool (szb m size)) w) := by
  unfold szb
  have C := log_c size w
  unfold Ltuple at C
  generalize lgv size = L at *
  cases h : hasLog size
  · rw [h] at C
    clear h
    go_enter Tryz.func154, Tryz.ntmps154
    go_wp2_with fail
    refine C.mono ?_
    rintro e w1 ⟨rfl, hk1⟩
    go_wp2_with fail
    go_ret
    exact ⟨rfl, hk1⟩
  · rw [h] at C
    clear h
    go_enter Tryz.func154, Tryz.ntmps154
    go_wp2_with fail
    refine C.mono ?_
    rintro e w1 ⟨rfl, hk1⟩
    go_wp2_with fail
    go_ret
    exact ⟨rfl, hk1⟩
def berr (m n size : Int) (x y : Int) : Int := if slb m n then (if szb m size then (if ovr x y then 40 else if ovr (x * y) m then 40 else 0) else 50) else 0
set_option maxHeartbeats 2000000 in
theorem check_c5 (A B : Option Addr) (ca cb : Nat) (xs ys : List Int) (size : Int) (hu : U64 xs) (hv : U64 ys) (hlx : xs.length ≤ 100000000000000) (hly : ys.length ≤ 100000000000000) (w : World) (hr : Rd .u64 w A xs) (hs : Rd .u64 w B ys) : Calls Tryz.prog 97 #[.slice A xs.length ca, .slice B ys.length cb, .int .i64 size] w (Ret (.int .i64 (berr xs.length ys.length size (greatest xs) (greatest ys))) w) := by
  have hm := hr.1
  have hm2 := hs.1
  unfold berr
  have S1 := slides_c xs.length ys.length w
  cases h1 : slb xs.length ys.length
  · rw [h1] at S1
    rw [if_neg (by decide)]
    clear h1
    go_enter Tryz.func97, Tryz.ntmps97
    go_wp2_with fail
    refine S1.mono ?_
    rintro e w1 ⟨rfl, hk1⟩
    go_wp2_with fail
    go_ret
    exact ⟨rfl, hk1⟩
  rw [h1] at S1
  have S2 := fun w => sized_c xs.length size w
  cases h2 : szb xs.length size
  · rw [h2] at S2
    rw [if_pos rfl, if_neg (by decide)]
    clear h1 h2
    go_enter Tryz.func97, Tryz.ntmps97
    go_wp2_with fail
    refine S1.mono ?_
    rintro e w1 ⟨rfl, hk1⟩
    go_wp2_with fail
    refine (S2 _).mono ?_
    rintro e w2 ⟨rfl, hk2⟩
    go_wp2_with fail
    go_ret
    exact ⟨rfl, kept_trans hk1 hk2⟩
  have hb := szb_bd h2
  rw [h2] at S2
  rw [if_pos rfl, if_pos rfl]
  clear h1 h2
  have G1 := fun w1 (h : Rd .u64 w1 A xs) => greatest_c A ca xs hu w1 h
  have G2 := fun w1 (h : Rd .u64 w1 B ys) => greatest_c B cb ys hv w1 h
  have gx := greatest_bd hu
  have gy := greatest_bd hv
  generalize greatest xs = x at *
  generalize greatest ys = y at *
  by_cases hx0 : x = 0
  · have e0 : ovr (0 : Int) y = false := by simp [ovr]
    have e1 : ovr (0 * y : Int) xs.length = false := by simp [ovr]
    subst hx0
    rw [e0, if_neg (by decide), e1, if_neg (by decide)]
    clear e0 e1
    go_enter Tryz.func97, Tryz.ntmps97
    go_wp2_with fail
    refine S1.mono ?_
    rintro e w1 ⟨rfl, hk1⟩
    go_wp2_with fail
    refine (S2 _).mono ?_
    rintro e w2 ⟨rfl, hk2⟩
    have G1 := G1 w2 ((hr.kept hk1).kept hk2)
    go_wp2_with fail
    refine G1.mono ?_
    rintro e w3 ⟨rfl, hk3⟩
    have G2 := G2 w3 (((hs.kept hk1).kept hk2).kept hk3)
    go_wp2_with fail
    refine G2.mono ?_
    rintro e w4 ⟨rfl, hk4⟩
    clear G1 G2 S1 S2
    go_wp2_with fail
    go_ret
    exact ⟨rfl, kept_trans hk1 (kept_trans hk2 (kept_trans hk3 hk4))⟩
  have hbx : (x == 0) = false := by simpa using hx0
  have hd : (18446744073709551615 : Int).tdiv x = 18446744073709551615 / x := Int.tdiv_eq_ediv_of_nonneg (by decide)
  have hd0 : 0 ≤ 18446744073709551615 / x := Int.ediv_nonneg (by decide) gx.1
  have hd1 : 18446744073709551615 / x ≤ 18446744073709551615 := Int.ediv_le_self _ (by decide)
  by_cases h1 : 18446744073709551615 / x < y
  · rw [show ovr x y = true from decide_eq_true ⟨hx0, h1⟩, if_pos rfl]
    generalize (18446744073709551615 : Int) / x = d at *
    go_enter Tryz.func97, Tryz.ntmps97
    go_wp2_with fail
    refine S1.mono ?_
    rintro e w1 ⟨rfl, hk1⟩
    go_wp2_with fail
    refine (S2 _).mono ?_
    rintro e w2 ⟨rfl, hk2⟩
    have G1 := G1 w2 ((hr.kept hk1).kept hk2)
    go_wp2_with fail
    refine G1.mono ?_
    rintro e w3 ⟨rfl, hk3⟩
    have G2 := G2 w3 (((hs.kept hk1).kept hk2).kept hk3)
    go_wp2_with fail
    refine G2.mono ?_
    rintro e w4 ⟨rfl, hk4⟩
    clear G1 G2 S1 S2
    go_wp2_with fail
    go_ret
    exact ⟨rfl, kept_trans hk1 (kept_trans hk2 (kept_trans hk3 hk4))⟩
  rw [show ovr x y = false from decide_eq_false fun h => h1 h.2, if_neg (by decide)]
  have hxy := over_no gx.1 gy.1 (fun h => h1 h.2)
  have hxy0 := Int.mul_nonneg gx.1 gy.1
  have hov : ovr (x * y) xs.length = decide (x * y ≠ 0 ∧ 18446744073709551615 / (x * y) < (xs.length : Int)) := rfl
  rw [hov]
  clear hov
  have h1' : decide (18446744073709551615 / x < y) = false := decide_eq_false h1
  generalize (18446744073709551615 : Int) / x = d at *
  have hyx : y * x = x * y := Int.mul_comm _ _
  generalize hP : x * y = P at *
  have HP := Lib.hid hP
  by_cases hp0 : P = 0
  · subst hp0
    rw [if_neg (by simp)]
    go_enter Tryz.func97, Tryz.ntmps97
    go_wp2_with fail
    refine S1.mono ?_
    rintro e w1 ⟨rfl, hk1⟩
    go_wp2_with fail
    refine (S2 _).mono ?_
    rintro e w2 ⟨rfl, hk2⟩
    have G1 := G1 w2 ((hr.kept hk1).kept hk2)
    go_wp2_with fail
    refine G1.mono ?_
    rintro e w3 ⟨rfl, hk3⟩
    have G2 := G2 w3 (((hs.kept hk1).kept hk2).kept hk3)
    go_wp2_with fail
    refine G2.mono ?_
    rintro e w4 ⟨rfl, hk4⟩
    clear G1 G2 S1 S2
    go_wp2_with fail
    go_ret
    exact ⟨rfl, kept_trans hk1 (kept_trans hk2 (kept_trans hk3 hk4))⟩
  have hbp : (P == 0) = false := by simpa using hp0
  have he : (18446744073709551615 : Int).tdiv P = 18446744073709551615 / P := Int.tdiv_eq_ediv_of_nonneg (by decide)
  have he0 : 0 ≤ 18446744073709551615 / P := Int.ediv_nonneg (by decide) hxy0
  have he1 : 18446744073709551615 / P ≤ 18446744073709551615 := Int.ediv_le_self _ (by decide)
  generalize (18446744073709551615 : Int) / P = d2 at *
  by_cases h2 : d2 < (xs.length : Int)
  · rw [if_pos (decide_eq_true ⟨hp0, h2⟩)]
    go_enter Tryz.func97, Tryz.ntmps97
    go_wp2_with fail
    refine S1.mono ?_
    rintro e w1 ⟨rfl, hk1⟩
    go_wp2_with fail
    refine (S2 _).mono ?_
    rintro e w2 ⟨rfl, hk2⟩
    have G1 := G1 w2 ((hr.kept hk1).kept hk2)
    go_wp2_with fail
    refine G1.mono ?_
    rintro e w3 ⟨rfl, hk3⟩
    have G2 := G2 w3 (((hs.kept hk1).kept hk2).kept hk3)
    go_wp2_with fail
    refine G2.mono ?_
    rintro e w4 ⟨rfl, hk4⟩
    clear G1 G2 S1 S2
    go_wp2_with fail
    go_ret
    exact ⟨rfl, kept_trans hk1 (kept_trans hk2 (kept_trans hk3 hk4))⟩
  · rw [if_neg (by simp [h2])]
    have h2' : decide (d2 < (xs.length : Int)) = false := decide_eq_false h2
    go_enter Tryz.func97, Tryz.ntmps97
    go_wp2_with fail
    refine S1.mono ?_
    rintro e w1 ⟨rfl, hk1⟩
    go_wp2_with fail
    refine (S2 _).mono ?_
    rintro e w2 ⟨rfl, hk2⟩
    have G1 := G1 w2 ((hr.kept hk1).kept hk2)
    go_wp2_with fail
    refine G1.mono ?_
    rintro e w3 ⟨rfl, hk3⟩
    have G2 := G2 w3 (((hs.kept hk1).kept hk2).kept hk3)
    go_wp2_with fail
    refine G2.mono ?_
    rintro e w4 ⟨rfl, hk4⟩
    clear G1 G2 S1 S2
    go_wp2_with fail
    go_ret
    exact ⟨rfl, kept_trans hk1 (kept_trans hk2 (kept_trans hk3 hk4))⟩
end Go.Proofs.YtdejablhpljdfaaGreat
namespace Go.Proofs.YtdejablhpljdfaaGreat
open Go.RowKit BG
attribute [local go_sem ↓] Go.wp_at_zero Go.wp_at_succ run_min_at run_max_at
set_option linter.unusedVariables false
def countv (m n size : Int) : Int := if slb m (min n 1099511627776) = true ∧ szb m size = true then 3 + 6 * ((min n 1099511627776 - m) / (size - m + 1) + 1) else 0
set_option maxHeartbeats 2000000 in
theorem count_c (m n size : Int) (w : World) : Calls Tryz.prog 106 #[.int .i64 m, .int .i64 n, .int .i64 size] w (Ret (.int .i64 (countv m n size)) w) := by
  unfold countv
  have S1 := slides_c m (min n 1099511627776) w
  have S2 := fun w => sized_c m size w
  have hn1 : min n 1099511627776 ≤ 1099511627776 := by omega
  generalize hmn : min n 1099511627776 = n1 at *
  cases h1 : slb m n1
  · rw [h1] at S1
    rw [if_neg (by simp)]
    clear h1
    go_enter Tryz.func106, Tryz.ntmps106
    go_wp2_with fail
    refine S1.mono ?_
    rintro e w1 ⟨rfl, hk1⟩
    go_wp2_with fail
    go_ret
    exact ⟨rfl, hk1⟩
  cases h2 : szb m size
  · rw [h1] at S1
    rw [h2] at S2
    rw [if_neg (by simp)]
    clear h1 h2
    go_enter Tryz.func106, Tryz.ntmps106
    go_wp2_with fail
    refine S1.mono ?_
    rintro e w1 ⟨rfl, hk1⟩
    go_wp2_with fail
    refine (S2 _).mono ?_
    rintro e w2 ⟨rfl, hk2⟩
    go_wp2_with fail
    go_ret
    exact ⟨rfl, kept_trans hk1 hk2⟩
  have hz := szb_bd h2
  obtain ⟨hm1, hm2⟩ : 1 ≤ m ∧ m ≤ n1 := of_decide_eq_true h1
  rw [h1] at S1
  rw [h2] at S2
  rw [if_pos ⟨rfl, rfl⟩]
  clear h1 h2
  have e1 : n1 - m + 1 - 1 = n1 - m := by omega
  have hd : (n1 - m).tdiv (size - m + 1) = (n1 - m) / (size - m + 1) := Int.tdiv_eq_ediv_of_nonneg (by omega)
  have hd0 : 0 ≤ (n1 - m) / (size - m + 1) := Int.ediv_nonneg (by omega) (by omega)
  have hd1 : (n1 - m) / (size - m + 1) ≤ n1 - m := Int.ediv_le_self _ (by omega)
  have hb : (size - m + 1 == 0) = false := by rw [beq_eq_false_iff_ne]; omega
  generalize hE : size - m + 1 = E at *
  generalize (n1 - m) / E = D at *
  go_enter Tryz.func106, Tryz.ntmps106
  go_wp2_with fail
  refine S1.mono ?_
  rintro e w1 ⟨rfl, hk1⟩
  go_wp2_with fail
  refine (S2 _).mono ?_
  rintro e w2 ⟨rfl, hk2⟩
  clear S1 S2
  go_wp2_with fail
  go_ret
  exact ⟨rfl, kept_trans hk1 hk2⟩
end Go.Proofs.YtdejablhpljdfaaGreat
namespace Go.Proofs.YtdejablhpljdfaaGreat
open Go.RowKit BG
attribute [local go_sem ↓] Go.wp_at_zero Go.wp_at_succ run_min_at run_max_at
set_option linter.unusedVariables false
theorem countv_bd (m n size : Int) : 0 ≤ countv m n size ∧ countv m n size ≤ 8796093022208 := by
  unfold countv
  split
  · rename_i h
    have hz := szb_bd h.2
    obtain ⟨hm1, hm2⟩ : 1 ≤ m ∧ m ≤ min n 1099511627776 := of_decide_eq_true h.1
    have h1 : 0 ≤ (min n 1099511627776 - m) / (size - m + 1) := Int.ediv_nonneg (by omega) (by omega)
    have h2 : (min n 1099511627776 - m) / (size - m + 1) ≤ min n 1099511627776 - m := Int.ediv_le_self _ (by omega)
    omega
  · omega
def costv (m n : Int) (l : Nat) : Int := countv m n ((2 ^ l : Nat) : Int) * ((2 ^ l : Nat) : Int) * ((l : Int) + 1)
def fitT (m n : Int) : Nat → Int × Int
  | 0 => (0, 0)
  | l + 1 => if 0 < costv m n l ∧ ((fitT m n l).1 = 0 ∨ costv m n l < (fitT m n l).2) then (((2 ^ l : Nat) : Int), costv m n l) else fitT m n l
def fitv (m n : Int) : Int := (fitT m n 13).1
theorem pow_bd {l : Nat} (h : l ≤ 12) : 1 ≤ ((2 ^ l : Nat) : Int) ∧ ((2 ^ l : Nat) : Int) ≤ 4096 := by
  have h1 := Nat.two_pow_pos l
  have h2 : 2 ^ l ≤ 2 ^ 12 := Nat.pow_le_pow_right (by decide) h
  omega
theorem costv_bd (m n : Int) {l : Nat} (h : l ≤ 12) : 0 ≤ countv m n ((2 ^ l : Nat) : Int) * ((2 ^ l : Nat) : Int) ∧ countv m n ((2 ^ l : Nat) : Int) * ((2 ^ l : Nat) : Int) ≤ 36028797018963968 ∧ 0 ≤ costv m n l ∧ costv m n l ≤ 468374361246531584 := by
  have h1 := countv_bd m n ((2 ^ l : Nat) : Int)
  have h2 := pow_bd h
  have h3 : countv m n ((2 ^ l : Nat) : Int) * ((2 ^ l : Nat) : Int) ≤ 8796093022208 * 4096 := Int.mul_le_mul h1.2 h2.2 (by omega) (by decide)
  have h4 : 0 ≤ countv m n ((2 ^ l : Nat) : Int) * ((2 ^ l : Nat) : Int) := Int.mul_nonneg h1.1 (by omega)
  have h5 : costv m n l ≤ 36028797018963968 * 13 := Int.mul_le_mul (by omega) (by omega) (by omega) (by decide)
  have h6 : 0 ≤ costv m n l := Int.mul_nonneg h4 (by omega)
  exact ⟨h4, by omega, h6, by omega⟩
theorem fitT_bd (m n : Int) : ∀ l, l ≤ 13 → 0 ≤ (fitT m n l).1 ∧ (fitT m n l).1 ≤ 4096 ∧ 0 ≤ (fitT m n l).2 ∧ (fitT m n l).2 ≤ 468374361246531584 := by
  intro l
  induction l with
  | zero => intro _; exact ⟨Int.le_refl 0, (by decide : (0 : Int) ≤ 4096), Int.le_refl 0, (by decide : (0 : Int) ≤ 468374361246531584)⟩
  | succ l ih =>
    intro h
    have a := ih (by omega)
    have b := costv_bd m n (l := l) (by omega)
    have c := pow_bd (l := l) (by omega)
    show 0 ≤ (if _ then _ else _ : Int × Int).1 ∧ (if _ then _ else _ : Int × Int).1 ≤ 4096 ∧ 0 ≤ (if _ then _ else _ : Int × Int).2 ∧ (if _ then _ else _ : Int × Int).2 ≤ _
    split
    · exact ⟨(by omega : 0 ≤ ((2 ^ l : Nat) : Int)), c.2, b.2.2.1, b.2.2.2⟩
    · exact a
theorem fitT_yes {m n : Int} {l : Nat} (h : 0 < costv m n l) (h2 : (fitT m n l).1 = 0 ∨ costv m n l < (fitT m n l).2) : fitT m n (l + 1) = (((2 ^ l : Nat) : Int), costv m n l) := by
  show (if _ then _ else _) = _
  rw [if_pos ⟨h, h2⟩]
theorem fitT_no {m n : Int} {l : Nat} (h : ¬ (0 < costv m n l ∧ ((fitT m n l).1 = 0 ∨ costv m n l < (fitT m n l).2))) : fitT m n (l + 1) = fitT m n l := by
  show (if _ then _ else _) = _
  rw [if_neg h]
set_option maxRecDepth 100000 in
set_option maxHeartbeats 4000000 in
theorem fit_c (m n : Int) (w : World) : Calls Tryz.prog 182 #[.int .i64 m, .int .i64 n] w (Ret (.int .i64 (fitv m n)) w) := by
  unfold fitv
  go_enter Tryz.func182, Tryz.ntmps182
  go_wp2_with fail
  go_loopw [5, 6, 10] (fun b s iv wr => ∃ l : Nat, l ≤ 13 ∧ iv = .int .i64 l ∧ b = .int .i64 (fitT m n l).1 ∧ s = .int .i64 (fitT m n l).2 ∧ Kept w wr) (fun _ _ iv _ => 13 - (intOf iv).toNat)
  case atStart => exact ⟨0, Nat.zero_le _, rfl, rfl, rfl, kept_refl _⟩
  case round =>
    obtain ⟨l, hl, rfl, rfl, rfl, hk⟩ := hrel
    by_cases hlt : l < 13
    · have hs := shl_at l (by omega)
      have HZ := Lib.hid (show ((2 ^ (l + 1) : Nat) : Int) = 2 * ((2 ^ l : Nat) : Int) by rw [Nat.pow_succ, Int.natCast_mul]; omega)
      have cb := countv_bd m n ((2 ^ l : Nat) : Int)
      have pb := pow_bd (l := l) (by omega)
      have qb := costv_bd m n (l := l) (by omega)
      have fb := fitT_bd m n l (by omega)
      have C := fun w => count_c m n ((2 ^ l : Nat) : Int) w
      have hyes := fun h h2 => fitT_yes (m := m) (n := n) (l := l) h h2
      have hno := fun h => fitT_no (m := m) (n := n) (l := l) h
      have hq : costv m n l = countv m n ((2 ^ l : Nat) : Int) * ((2 ^ l : Nat) : Int) * ((l : Int) + 1) := rfl
      have C := C wr
      generalize hF : fitT m n l = F at *
      obtain ⟨b, s⟩ := F
      dsimp only at *
      clear hF
      generalize costv m n l = Q at *
      generalize hN : ((2 ^ l : Nat) : Int) = N at *
      have HN := Lib.hid hN
      clear hN
      generalize countv m n N = c at *
      generalize hP : c * N = P at *
      have hPQ := hq.symm
      clear hq
      by_cases h1 : 0 < Q
      · by_cases h2 : b = 0
        · have HT := Lib.hid (hyes h1 (.inl h2))
          subst h2
          clear hyes hno
          go_wp2_with fail
          refine C.mono ?_
          rintro e w1 ⟨rfl, hk1⟩
          clear C
          go_wp2_with fail
          exact ⟨⟨l + 1, by omega, by go_num, by rw [HT.out], by rw [HT.out], kept_trans hk hk1⟩, by simp [intOf]; omega⟩
        · have h2' : (b == 0) = false := by simpa using h2
          by_cases h3 : Q < s
          · have HT := Lib.hid (hyes h1 (.inr h3))
            clear hyes hno
            go_wp2_with fail
            refine C.mono ?_
            rintro e w1 ⟨rfl, hk1⟩
            clear C
            go_wp2_with fail
            exact ⟨⟨l + 1, by omega, by go_num, by rw [HT.out], by rw [HT.out], kept_trans hk hk1⟩, by simp [intOf]; omega⟩
          · have HT := Lib.hid (hno (fun h => h.2.elim h2 h3))
            have h3' : decide (Q < s) = false := decide_eq_false h3
            clear hyes hno
            go_wp2_with fail
            refine C.mono ?_
            rintro e w1 ⟨rfl, hk1⟩
            clear C
            go_wp2_with fail
            exact ⟨⟨l + 1, by omega, by go_num, by rw [HT.out], by rw [HT.out], kept_trans hk hk1⟩, by simp [intOf]; omega⟩
      · have HT := Lib.hid (hno (fun h => h1 h.1))
        obtain rfl : Q = 0 := by omega
        clear hyes hno
        go_wp2_with fail
        refine C.mono ?_
        rintro e w1 ⟨rfl, hk1⟩
        clear C
        go_wp2_with fail
        exact ⟨⟨l + 1, by omega, by go_num, by rw [HT.out], by rw [HT.out], kept_trans hk hk1⟩, by simp [intOf]; omega⟩
    · obtain rfl : l = 13 := by omega
      generalize fitT m n 13 = F at *
      go_wp2_with fail
      go_ret
      exact ⟨rfl, hk⟩
end Go.Proofs.YtdejablhpljdfaaGreat
namespace Go.Proofs.YtdejablhpljdfaaGreat
open Go.RowKit BG
set_option linter.unusedVariables false
theorem addr_two (a : Addr) (m n : Nat) : (a.add m).add n = a.add (m + n) := by
  unfold Addr.add
  by_cases h : m = 0
  · subst h; simp
  · by_cases h' : n = 0
    · subst h'; simp [h]
    · simp [h, h']; omega
theorem Rd.sub {k : IntKind} {w : World} {ad : Addr} {xs ys : List Int} (h : Rd k w (some ad) xs) (d : Nat) (hl : d + ys.length ≤ xs.length) (hy : ∀ j, j < ys.length → nth ys j = nth xs (d + j)) : Rd k w (some (ad.add d)) ys := by
  refine ⟨by have := h.1; omega, fun hp => ⟨_, rfl, fun j hj => ?_⟩⟩
  obtain ⟨ad', e, hc⟩ := h.2 (by omega)
  cases e
  rw [addr_two, hc (d + j) (by omega), hy j hj]
theorem Rd.pre {k : IntKind} {w : World} {A : Option Addr} {xs ys : List Int} (h : Rd k w A xs) (hl : ys.length ≤ xs.length) (hy : ∀ j, j < ys.length → nth ys j = nth xs j) : Rd k w A ys := by
  refine ⟨by have := h.1; omega, fun hp => ?_⟩
  obtain ⟨ad, e, hc⟩ := h.2 (by omega)
  exact ⟨ad, e, fun j hj => by rw [hc j (by omega), hy j hj]⟩
theorem amiss_pow {k : Int} (h : pr k ≠ 0) {l : Nat} (hl : l ≤ 12) : amiss k ((2 ^ l : Nat) : Int) = 0 := by
  unfold amiss; rw [if_neg h, (log_pow l hl).1]; rfl
end Go.Proofs.YtdejablhpljdfaaGreat
namespace Go.Proofs.YtdejablhpljdfaaGreat
open Go.RowKit BG
attribute [local go_sem ↓] Go.wp_at_zero Go.wp_at_succ run_min_at run_max_at
set_option linter.unusedVariables false
theorem Ans.none {l : List Int} {er : Int} {w w' : World} (hl : l = []) (hk : Kept w w') : Ans l er w (.returned (.tuple #[.slice none 0 0, .int .i64 er])) w' := by
  subst hl; exact ⟨Option.none, 0, rfl, Rd.nil _ _ _, hk, by simp, by omega⟩
theorem beq_zero (n : Nat) (h : n ≠ 0) : ((n : Int) == 0) = false := by rw [beq_eq_false_iff_ne]; omega
end Go.Proofs.YtdejablhpljdfaaGreat
namespace Go.Proofs.YtdejablhpljdfaaGreat
open Go.RowKit BG
attribute [local go_sem ↓] Go.wp_at_zero Go.wp_at_succ
set_option linter.unusedVariables false
theorem rd_cells {w : World} {k : IntKind} {ad : Addr} {xs : List Int} (h : Rd k w (some ad) xs) : ∀ (j : Nat) u, (xs.map (Value.int k))[j]? = some u → w.cell? (ad.add j) = some u := by
  intro j u hj
  rw [List.getElem?_map, Option.map_eq_some_iff] at hj
  obtain ⟨z, hz, rfl⟩ := hj
  have hlt := (List.getElem?_eq_some_iff.1 hz).1
  obtain ⟨ad', e, hc⟩ := h.2 (by omega)
  cases e
  rw [hc j hlt, nth_lt hlt, (List.getElem?_eq_some_iff.1 hz).2]
theorem cells_one (k : IntKind) (xs : List Int) : ∀ u ∈ xs.map (Value.int k), u.oneCell' = true := by
  intro u hu
  rw [List.mem_map] at hu
  obtain ⟨z, _, rfl⟩ := hu
  rfl
theorem wide_is (xs : List Int) {size : Nat} (h : xs.length ≤ size) : xs.map (Value.int .u64) ++ List.replicate (size - xs.length) (Value.int .u64 0) = (widev xs size).map (Value.int .u64) := by
  refine List.ext_getElem (by simp [widev_length]; omega) fun j h1 h2 => ?_
  rw [List.getElem_map, ← nth_lt (by simpa using h2)]
  have hj : j < size := by simpa [widev_length] using h2
  unfold widev
  rw [nth_mk hj]
  by_cases hlt : j < xs.length
  · rw [List.getElem_append_left (by simpa using hlt), if_pos hlt, List.getElem_map, nth_lt hlt]
  · rw [List.getElem_append_right (by simpa using hlt), if_neg hlt, List.getElem_replicate]
end Go.Proofs.YtdejablhpljdfaaGreat
namespace Go.Proofs.YtdejablhpljdfaaGreat
open Go.RowKit BG
attribute [local go_sem ↓] Go.wp_at_zero Go.wp_at_succ
set_option linter.unusedVariables false
theorem own_set {w : World} {base n size : Nat} {e : TypeId} {v : Value} {xs : List Value} (h : w.ownsRow base e size v n xs) {p : Addr} (hp : p.block < base) (u : Value) : (w.setCell p u).ownsRow base e size v n xs :=
  World.ownsRow.kept h (⟨rfl, rfl, rfl, by simp, fun i hi hne => Below.heap_setCell w p u i fun e => hne (by rw [e])⟩ : w.grownBy (w.setCell p u) (some p.block)) (by
    cases e : v.ownBlock with
    | none => exact .inl rfl
    | some g => exact .inr fun e2 => by cases e2; have := (World.ownsRow.lt h _ e).1; omega)
theorem Own.form {k : IntKind} {e : TypeId} {base : Nat} {w : World} {v : Value} {xs : List Int} (h : Own k e base w v xs) : ∃ A c, v = .slice A xs.length c := by
  obtain ⟨A, c, e, _⟩ := h.rd
  exact ⟨A, c, e⟩
end Go.Proofs.YtdejablhpljdfaaGreat
