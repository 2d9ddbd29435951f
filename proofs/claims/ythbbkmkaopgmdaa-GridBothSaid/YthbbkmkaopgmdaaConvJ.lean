/-
  Products of rows: without Go.
-/
import Derived.Test.YthbbkmkaopgmdaaWNttJ
import Derived.Test.YthbbkmkaopgmdaaWRows
namespace Go.Proofs.Ythbbkmkaopgmdaa
open Go.RowKit BG
set_option linter.unusedVariables false

/-! ### The least power of two -/
def szOk (n : Int) : Bool := decide (1 ≤ n ∧ n ≤ 4096)
def szL (n : Int) : Nat := ((List.range 13).find? fun l => decide (n ≤ ((2 ^ l : Nat) : Int))).getD 0
theorem szL_spec {n : Int} (h : szOk n = true) : szL n ≤ 12 ∧ n ≤ ((2 ^ szL n : Nat) : Int) ∧ ∀ q, q < szL n → ((2 ^ q : Nat) : Int) < n := by
  obtain ⟨h1, h2⟩ : 1 ≤ n ∧ n ≤ 4096 := of_decide_eq_true h
  unfold szL
  cases hf : (List.range 13).find? fun l => decide (n ≤ ((2 ^ l : Nat) : Int)) with
  | none =>
    have := List.find?_eq_none.1 hf 12 (by simp)
    simp at this
    omega
  | some l =>
    rw [List.find?_eq_some_iff_append] at hf
    obtain ⟨h3, ps, bs, e, h4⟩ := hf
    have h3 : n ≤ ((2 ^ l : Nat) : Int) := by simpa using h3
    have hl : ps.length = l ∧ l < 13 := by
      have h5 : (List.range 13)[ps.length]? = some l := by rw [e]; simp
      rw [List.getElem?_eq_some_iff] at h5
      obtain ⟨h6, h7⟩ := h5
      simp at h6 h7
      omega
    refine ⟨by simp; omega, by simpa using h3, fun q hq => ?_⟩
    have hq : q < l := by simpa using hq
    have h5 : (List.range 13)[q]? = ps[q]? := by rw [e, List.getElem?_append_left (by omega)]
    have h6 : (List.range 13)[q]? = some q := by rw [List.getElem?_range]; omega
    have h7 : q ∈ ps := List.mem_of_getElem? (h5.symm.trans h6)
    have := h4 q h7
    simp at this
    rw [Int.natCast_pow]
    exact this
/-! ### The greatest -/
def grT (f : Nat → Int) : Nat → Int
  | 0 => 0
  | j + 1 => max (grT f j) (f j)
def greatest (xs : List Int) : Int := grT (nth xs) xs.length
theorem grT_nonneg (f : Nat → Int) : ∀ n, 0 ≤ grT f n := by
  intro n
  induction n with
  | zero => exact Int.le_refl 0
  | succ n ih => show 0 ≤ max (grT f n) (f n); omega
theorem grT_le {f : Nat → Int} {m : Int} (h0 : 0 ≤ m) (h : ∀ j, f j ≤ m) : ∀ n, grT f n ≤ m := by
  intro n
  induction n with
  | zero => exact h0
  | succ n ih => have := h n; show max (grT f n) (f n) ≤ m; omega
theorem le_grT {f : Nat → Int} : ∀ {n j : Nat}, j < n → f j ≤ grT f n := by
  intro n
  induction n with
  | zero => intro j h; omega
  | succ n ih =>
    intro j h
    show f j ≤ max (grT f n) (f n)
    rcases Nat.lt_or_ge j n with h' | h'
    · have := ih h'; omega
    · obtain rfl : j = n := by omega
      omega
theorem greatest_bd {xs : List Int} (hu : U64 xs) : 0 ≤ greatest xs ∧ greatest xs ≤ 18446744073709551615 := ⟨grT_nonneg _ _, grT_le (by decide) (fun j => (hu j).2) _⟩
theorem grT_is {f : Nat → Int} {n : Nat} {m : Int} (h0 : 0 ≤ m) (h : ∀ j, j < n → f j ≤ m) (he : m = 0 ∨ ∃ j, j < n ∧ f j = m) : grT f n = m := by
  have h1 : grT f n ≤ m := by
    clear he
    induction n with
    | zero => exact h0
    | succ n ih => have a := ih fun j hj => h j (by omega); have b := h n (by omega); show max (grT f n) (f n) ≤ m; omega
  have h2 := grT_nonneg f n
  rcases he with rfl | ⟨j, hj, e⟩
  · omega
  · have := le_grT (f := f) hj; omega
/-! ### What is amiss with two rows -/
def cerr (la lb : Nat) (x y : Int) : Int :=
  if 4097 < la + lb then 41 else if x ≠ 0 ∧ 18446744073709551615 / x < y then 40 else if x * y ≠ 0 ∧ 18446744073709551615 / (x * y) < ((min la lb : Nat) : Int) then 40 else 0
theorem over_no {x y : Int} (hx : 0 ≤ x) (hy : 0 ≤ y) (h : ¬ (x ≠ 0 ∧ 18446744073709551615 / x < y)) : x * y ≤ 18446744073709551615 := by
  by_cases h0 : x = 0
  · rw [h0, Int.zero_mul]; decide
  · have h1 : y ≤ 18446744073709551615 / x := by omega
    have h2 := Int.mul_le_mul_of_nonneg_left h1 hx
    have h3 := Int.mul_ediv_self_le (x := 18446744073709551615) h0
    omega
theorem cerr_zero {la lb : Nat} {x y : Int} (hx : 0 ≤ x) (hy : 0 ≤ y) (h : cerr la lb x y = 0) : la + lb ≤ 4097 ∧ x * y ≤ 18446744073709551615 ∧ x * y * ((min la lb : Nat) : Int) ≤ 18446744073709551615 := by
  unfold cerr at h
  by_cases h1 : 4097 < la + lb
  · rw [if_pos h1] at h; cases h
  rw [if_neg h1] at h
  by_cases h2 : x ≠ 0 ∧ 18446744073709551615 / x < y
  · rw [if_pos h2] at h; cases h
  rw [if_neg h2] at h
  by_cases h3 : x * y ≠ 0 ∧ 18446744073709551615 / (x * y) < ((min la lb : Nat) : Int)
  · rw [if_pos h3] at h; cases h
  exact ⟨by omega, over_no hx hy h2, over_no (Int.mul_nonneg hx hy) (Int.natCast_nonneg _) h3⟩
/-! ### The sums of a product -/
/-- Number t of the product of two rows. -/
def cs (a b : Nat → Int) (la lb t : Nat) : Int := sumTo la fun j => if j ≤ t ∧ t - j < lb then a j * b (t - j) else 0
theorem sumTo_nonneg {n : Nat} {f : Nat → Int} (h : ∀ i, i < n → 0 ≤ f i) : 0 ≤ sumTo n f := by
  induction n with
  | zero => exact Int.le_refl 0
  | succ n ih => have a := ih fun i hi => h i (by omega); have b := h n (by omega); show 0 ≤ sumTo n f + f n; omega
theorem sumTo_le {n : Nat} {f : Nat → Int} {m : Int} (h : ∀ i, i < n → f i ≤ m) : sumTo n f ≤ m * n := by
  induction n with
  | zero => show 0 ≤ m * 0; omega
  | succ n ih =>
    have a := ih fun i hi => h i (by omega)
    have b := h n (by omega)
    show sumTo n f + f n ≤ _
    rw [Int.natCast_add, Int.mul_add]
    omega
theorem sumTo_ext {m n : Nat} {f : Nat → Int} (h : m ≤ n) (h0 : ∀ i, m ≤ i → i < n → f i = 0) : sumTo n f = sumTo m f := by
  obtain ⟨d, rfl⟩ : ∃ d, n = m + d := ⟨n - m, by omega⟩
  rw [sumTo_append, sumTo_zero fun i hi => h0 (m + i) (by omega) (by omega), Int.add_zero]
theorem sumTo_rev (n : Nat) (f : Nat → Int) : sumTo n f = sumTo n fun i => f (n - 1 - i) := by
  induction n with
  | zero => rfl
  | succ n ih =>
    have e : sumTo (n + 1) (fun i => f (n + 1 - 1 - i)) = f n + sumTo n fun i => f (n - 1 - i) := by
      rw [show n + 1 = 1 + n by omega, sumTo_append]
      congr 1
      · show 0 + f (1 + n - 1 - 0) = f n
        rw [Int.zero_add]; congr 1; omega
      · refine sumTo_congr fun i hi => ?_
        congr 1; omega
    rw [e, ← ih]
    show sumTo n f + f n = _
    omega
theorem cs_nonneg {a b : Nat → Int} (ha : ∀ i, 0 ≤ a i) (hb : ∀ i, 0 ≤ b i) (la lb t : Nat) : 0 ≤ cs a b la lb t :=
  sumTo_nonneg fun i _ => by split; exact Int.mul_nonneg (ha _) (hb _); exact Int.le_refl 0
/-- A product that is made row by row. -/
theorem cs_two (a b : Nat → Int) (la lb t : Nat) : (sumTo la fun i => sumTo lb fun j => if i + j = t then a i * b j else 0) = cs a b la lb t := by
  refine sumTo_congr fun i _ => ?_
  by_cases h : i ≤ t ∧ t - i < lb
  · rw [if_pos h, sumTo_one (t - i) h.2 _ fun j _ hne => if_neg (by omega), if_pos (by omega)]
  · rw [if_neg h]
    exact sumTo_zero fun j hj => if_neg (by omega)
theorem cs_swap (a b : Nat → Int) (la lb t : Nat) : cs a b la lb t = cs b a lb la t := by
  rw [← cs_two, ← cs_two, sumTo_swap]
  refine sumTo_congr fun j _ => sumTo_congr fun i _ => ?_
  rw [Nat.add_comm i j, Int.mul_comm]
/-- A product is bounded by the greatest numbers, as many times as the shorter row has numbers. -/
theorem cs_le {a b : Nat → Int} {x y : Int} {la lb : Nat} (ha : ∀ i, i < la → 0 ≤ a i ∧ a i ≤ x) (hb : ∀ i, i < lb → 0 ≤ b i ∧ b i ≤ y) (hx : 0 ≤ x) (hy : 0 ≤ y) (t : Nat) : cs a b la lb t ≤ x * y * ((min la lb : Nat) : Int) := by
  have hxy := Int.mul_nonneg hx hy
  have one : ∀ (a b : Nat → Int) (x y : Int) (la lb : Nat), (∀ i, i < la → 0 ≤ a i ∧ a i ≤ x) → (∀ i, i < lb → 0 ≤ b i ∧ b i ≤ y) → 0 ≤ x → 0 ≤ y → cs a b la lb t ≤ x * y * (la : Int) := by
    intro a b x y la lb ha hb hx hy
    refine sumTo_le fun i hi => ?_
    split
    · rename_i h
      have h1 := ha i hi
      have h2 := hb _ h.2
      exact Int.mul_le_mul h1.2 h2.2 h2.1 hx
    · exact Int.mul_nonneg hx hy
  rcases Nat.le_total la lb with h | h
  · rw [Nat.min_eq_left h]; exact one a b x y la lb ha hb hx hy
  · rw [Nat.min_eq_right h, cs_swap, Int.mul_comm x y]; exact one b a y x lb la hb ha hy hx
/-- Products that go round in enough places go not round. -/
theorem cyc_wide {a b : Nat → Int} {la lb size t : Nat} (h : la + lb ≤ size + 1) (ha : 0 < la) (hb : 0 < lb) (hsz : 0 < size) (ht : t < size) :
    cyc size (fun i => if i < la then a i else 0) (fun j => if j < lb then b j else 0) t = cs a b la lb t := by
  unfold cyc
  rw [← cs_two]
  rw [sumTo_ext (m := la) (n := size) (by omega) fun i h1 h2 => sumTo_zero fun j hj => by
    split
    · show (if i < la then a i else 0) * _ = 0
      rw [if_neg (by omega), Int.zero_mul]
    · rfl]
  refine sumTo_congr fun i hi => ?_
  rw [sumTo_ext (m := lb) (n := size) (by omega) fun j h1 h2 => by
    split
    · show _ * (if j < lb then b j else 0) = 0
      rw [if_neg (show ¬ j < lb by omega), Int.mul_zero]
    · rfl]
  refine sumTo_congr fun j hj => ?_
  show (if (i + j) % size = t then (if i < la then a i else 0) * (if j < lb then b j else 0) else 0) = _
  rw [Nat.mod_eq_of_lt (show i + j < size by omega), if_pos hi, if_pos hj]
def M64 : Int := 18446744073709551616
def prodv (a b : Nat → Int) (la lb : Nat) : List Int := mk (la + lb - 1) fun t => cs a b la lb t % 18446744073709551616
/-- The sums of a row along another one. -/
def sl (p t : Nat → Int) (m i : Nat) : Int := sumTo m fun j => p j * t (i + j)
def slidev (p t : Nat → Int) (m n : Nat) : List Int := mk (n - m + 1) fun i => sl p t m i % 18446744073709551616
theorem cs_slide {p t : Nat → Int} {m n i : Nat} (hm : 0 < m) (hmn : m ≤ n) (hi : i < n - m + 1) : cs (fun j => p (m - 1 - j)) t m n (m - 1 + i) = sl p t m i := by
  unfold cs sl
  rw [sumTo_rev m fun j => p j * t (i + j)]
  refine sumTo_congr fun j hj => ?_
  rw [if_pos (by omega)]
  congr 2; omega
/-- What is laid at t when row i has come to column j. -/
def acc (a b : Nat → Int) (lb i j t : Nat) : Int := (sumTo i fun i' => sumTo lb fun j' => if i' + j' = t then a i' * b j' else 0) + sumTo j fun j' => if i + j' = t then a i * b j' else 0
theorem acc_zero (a b : Nat → Int) (lb t : Nat) : acc a b lb 0 0 t = 0 := rfl
theorem acc_row (a b : Nat → Int) (lb i t : Nat) : acc a b lb i lb t = acc a b lb (i + 1) 0 t := by
  unfold acc
  show _ = sumTo i _ + _ + 0
  rw [Int.add_zero]
theorem acc_all (a b : Nat → Int) (la lb t : Nat) : acc a b lb la 0 t = cs a b la lb t := by
  unfold acc
  rw [cs_two]
  exact Int.add_zero _
theorem acc_at (a b : Nat → Int) (lb i j : Nat) : acc a b lb i (j + 1) (i + j) = acc a b lb i j (i + j) + a i * b j := by
  unfold acc
  show _ + (sumTo j _ + (if i + j = i + j then a i * b j else 0)) = _
  rw [if_pos rfl, Int.add_assoc]
theorem acc_off (a b : Nat → Int) (lb i j t : Nat) (h : t ≠ i + j) : acc a b lb i (j + 1) t = acc a b lb i j t := by
  unfold acc
  show _ + (sumTo j _ + (if i + j = t then a i * b j else 0)) = _
  rw [if_neg (fun e => h e.symm), Int.add_zero]
def accm (a b : Nat → Int) (lb i j t : Nat) : Int := acc a b lb i j t % 18446744073709551616
theorem accm_bd (a b : Nat → Int) (lb i j t : Nat) : 0 ≤ accm a b lb i j t ∧ accm a b lb i j t ≤ 18446744073709551615 := by unfold accm; omega
theorem accm_step (a b : Nat → Int) (lb i j : Nat) : (accm a b lb i j (i + j) + a i * b j % 18446744073709551616) % 18446744073709551616 = accm a b lb i (j + 1) (i + j) := by
  unfold accm
  rw [acc_at, ← Int.add_emod]
theorem accm_set (a b : Nat → Int) (lb i j : Nat) {n : Nat} (h : i + j < n) : (mk n (accm a b lb i j)).set (i + j) (accm a b lb i (j + 1) (i + j)) = mk n (accm a b lb i (j + 1)) := by
  rw [mk_set _ h]
  refine mk_congr fun t _ => ?_
  by_cases e : t = i + j
  · rw [if_pos e, e]
  · rw [if_neg e]; unfold accm; rw [acc_off _ _ _ _ _ _ e]
theorem accm_zero (a b : Nat → Int) (lb n : Nat) : mk n (accm a b lb 0 0) = mk n fun _ => 0 := mk_congr fun t _ => by unfold accm; rw [acc_zero]; rfl
theorem accm_row (a b : Nat → Int) (lb i n : Nat) : mk n (accm a b lb i lb) = mk n (accm a b lb (i + 1) 0) := mk_congr fun t _ => by unfold accm; rw [acc_row]
theorem accm_all (a b : Nat → Int) (la lb : Nat) : mk (la + lb - 1) (accm a b lb la 0) = prodv a b la lb := mk_congr fun t _ => by unfold accm; rw [acc_all]
/-! ### What the products answer -/
def perr (xs ys : List Int) : Int := if xs.length = 0 ∨ ys.length = 0 then 0 else cerr xs.length ys.length (greatest xs) (greatest ys)
def pval (xs ys : List Int) : List Int := if xs.length = 0 ∨ ys.length = 0 ∨ perr xs ys ≠ 0 then [] else prodv (nth xs) (nth ys) xs.length ys.length
/-- The answer: an array somewhere that reads so, an error. -/
def Ans (l : List Int) (er : Int) (w : World) (e : Ending) (w' : World) : Prop := ∃ A c, e = .returned (.tuple #[.slice A l.length c, .int .i64 er]) ∧ Rd .u64 w' A l ∧ Kept w w' ∧ l.length ≤ c ∧ c ≤ 9223372036854775807
theorem le_greatest {xs : List Int} {j : Nat} (h : j < xs.length) : nth xs j ≤ greatest xs := le_grT h
theorem prod_small {xs ys : List Int} (hu : U64 xs) (hv : U64 ys) (h : cerr xs.length ys.length (greatest xs) (greatest ys) = 0) (t : Nat) : cs (nth xs) (nth ys) xs.length ys.length t ≤ 18446744073709551615 := by
  obtain ⟨_, _, h3⟩ := cerr_zero (greatest_bd hu).1 (greatest_bd hv).1 h
  exact Int.le_trans (cs_le (fun i hi => ⟨(hu i).1, le_greatest hi⟩) (fun i hi => ⟨(hv i).1, le_greatest hi⟩) (greatest_bd hu).1 (greatest_bd hv).1 t) h3
/-- A row with noughts behind it. -/
def widev (xs : List Int) (size : Nat) : List Int := mk size fun i => if i < xs.length then nth xs i else 0
theorem widev_length (xs : List Int) (size : Nat) : (widev xs size).length = size := mk_length _ _
theorem widev_cyc {xs ys : List Int} {size t : Nat} (h : xs.length + ys.length ≤ size + 1) (ha : 0 < xs.length) (hb : 0 < ys.length) (ht : t < size) : cyc size (nth (widev xs size)) (nth (widev ys size)) t = cs (nth xs) (nth ys) xs.length ys.length t := by
  rw [← cyc_wide h ha hb (by omega) ht]
  unfold cyc
  refine sumTo_congr fun i hi => sumTo_congr fun j hj => ?_
  unfold widev
  rw [nth_mk hi, nth_mk hj]
theorem widev_nn {xs : List Int} (hu : U64 xs) (size : Nat) : NN (widev xs size) := nn_mk fun j _ => by split; exact (hu j).1; exact Int.le_refl 0
/-- Joined, the residues of the sums are the sums. -/
theorem rows_sums {n : Nat} {f : Nat → Int} (h : ∀ t, t < n → 0 ≤ f t ∧ f t ≤ 18446744073709551615) : rowsOk (mk n fun t => of 0 (f t)) (mk n fun t => of 1 (f t)) (mk n fun t => of 2 (f t)) = true ∧ rowsv (mk n fun t => of 0 (f t)) (mk n fun t => of 1 (f t)) (mk n fun t => of 2 (f t)) = mk n f := by
  have hk : rowsOk (mk n fun t => of 0 (f t)) (mk n fun t => of 1 (f t)) (mk n fun t => of 2 (f t)) = true := by
    simp only [rowsOk, decide_eq_true_eq]
    refine ⟨by rw [mk_length, mk_length], by rw [mk_length, mk_length], fun j hj => ?_⟩
    rw [mk_length] at hj
    rw [nth_mk hj, nth_mk hj, nth_mk hj]
    exact fits_of (h j hj).1 (h j hj).2 (cong_of _ _) (cong_of _ _) (cong_of _ _)
  refine ⟨hk, ?_⟩
  unfold rowsv
  rw [if_pos hk, mk_length]
  refine mk_congr fun j hj => ?_
  rw [nth_mk hj, nth_mk hj, nth_mk hj]
  exact num_of (h j hj).1 (h j hj).2 (cong_of _ _) (cong_of _ _) (cong_of _ _)
theorem u64_of (k : Int) (n : Nat) (f : Nat → Int) : U64 (mk n fun j => of k (f j)) := by
  intro j
  by_cases hj : j < n
  · rw [nth_mk hj]; have := of_bd k (f j); omega
  · unfold nth; rw [List.getD_eq_getElem?_getD, List.getElem?_eq_none (by rw [mk_length]; omega)]; exact ⟨Int.le_refl 0, by decide⟩
theorem nn_u64 {xs : List Int} (h : U64 xs) : NN xs := fun j => (h j).1
end Go.Proofs.Ythbbkmkaopgmdaa
/-
  Rows along rows: without Go.
-/
namespace Go.Proofs.Ythbbkmkaopgmdaa
open Go.RowKit BG
set_option linter.unusedVariables false

theorem addr_two (a : Addr) (m n : Nat) : (a.add m).add n = a.add (m + n) := by
  unfold Addr.add
  by_cases h : m = 0
  · subst h; simp
  · by_cases h' : n = 0
    · subst h'; simp [h]
    · simp [h, h']; omega
/-- A part of a row reads as that part of its numbers. -/
theorem Rd.sub {k : IntKind} {w : World} {ad : Addr} {xs ys : List Int} (h : Rd k w (some ad) xs) (d : Nat) (hl : d + ys.length ≤ xs.length) (hy : ∀ j, j < ys.length → nth ys j = nth xs (d + j)) : Rd k w (some (ad.add d)) ys := by
  refine ⟨by have := h.1; omega, fun hp => ⟨_, rfl, fun j hj => ?_⟩⟩
  obtain ⟨ad', e, hc⟩ := h.2 (by omega)
  cases e
  rw [addr_two, hc (d + j) (by omega), hy j hj]
theorem Rd.pre {k : IntKind} {w : World} {A : Option Addr} {xs ys : List Int} (h : Rd k w A xs) (hl : ys.length ≤ xs.length) (hy : ∀ j, j < ys.length → nth ys j = nth xs j) : Rd k w A ys := by
  refine ⟨by have := h.1; omega, fun hp => ?_⟩
  obtain ⟨ad, e, hc⟩ := h.2 (by omega)
  exact ⟨ad, e, fun j hj => by rw [hc j (by omega), hy j hj]⟩
theorem amiss_pow {k : Int} (h : pr k ≠ 0) {l : Nat} (hl : l ≤ 12) : amiss k ((2 ^ l : Nat) : Int) = 0 := by
  unfold amiss; rw [if_neg h, (log_pow l hl).1]; rfl
theorem grT_att (f : Nat → Int) : ∀ n, grT f n = 0 ∨ ∃ j, j < n ∧ f j = grT f n := by
  intro n
  induction n with
  | zero => exact .inl rfl
  | succ n ih =>
    have e : grT f (n + 1) = max (grT f n) (f n) := rfl
    by_cases h : grT f n < f n
    · exact .inr ⟨n, by omega, by rw [e]; omega⟩
    · rcases ih with ih | ⟨j, hj, hf⟩
      · exact .inl (by rw [e]; omega)
      · exact .inr ⟨j, by omega, by rw [e]; omega⟩
/-- A row the other way round. -/
def backv (xs : List Int) : List Int := mk xs.length fun j => nth xs (xs.length - 1 - j)
theorem backv_length (xs : List Int) : (backv xs).length = xs.length := mk_length _ _
theorem backv_at {xs : List Int} {j : Nat} (h : j < xs.length) : nth (backv xs) j = nth xs (xs.length - 1 - j) := nth_mk h
theorem u64_back {xs : List Int} (hu : U64 xs) : U64 (backv xs) := by
  intro j
  by_cases hj : j < xs.length
  · rw [backv_at hj]; exact hu _
  · unfold nth; rw [List.getD_eq_getElem?_getD, List.getElem?_eq_none (by rw [backv_length]; omega)]; exact ⟨Int.le_refl 0, by decide⟩
theorem greatest_back (xs : List Int) : greatest (backv xs) = greatest xs := by
  unfold greatest
  rw [backv_length]
  refine grT_is (grT_nonneg _ _) (fun j hj => ?_) ?_
  · rw [backv_at hj]; exact le_grT (by omega)
  · rcases grT_att (nth xs) xs.length with h | ⟨j, hj, h⟩
    · exact .inl h
    · refine .inr ⟨xs.length - 1 - j, by omega, ?_⟩
      rw [backv_at (by omega), show xs.length - 1 - (xs.length - 1 - j) = j by omega, h]
theorem cs_congr {a a' b b' : Nat → Int} {la lb : Nat} (ha : ∀ i, i < la → a i = a' i) (hb : ∀ i, i < lb → b i = b' i) (t : Nat) : cs a b la lb t = cs a' b' la lb t :=
  sumTo_congr fun i hi => by
    by_cases h : i ≤ t ∧ t - i < lb
    · rw [if_pos h, if_pos h, ha i hi, hb _ h.2]
    · rw [if_neg h, if_neg h]
def corrErr (ps ts : List Int) : Int := if ps.length = 0 ∨ ts.length < ps.length then 0 else cerr ps.length ts.length (greatest ps) (greatest ts)
def corrv (ps ts : List Int) : List Int := if ps.length = 0 ∨ ts.length < ps.length ∨ corrErr ps ts ≠ 0 then [] else slidev (nth ps) (nth ts) ps.length ts.length
theorem perr_back {ps ts : List Int} (hm : ps.length ≠ 0) (hn : ¬ ts.length < ps.length) : perr (backv ps) ts = corrErr ps ts := by
  unfold perr corrErr
  rw [backv_length, greatest_back, if_neg (by omega), if_neg (by omega)]
theorem prod_slide {ps ts : List Int} (hm : ps.length ≠ 0) (hn : ¬ ts.length < ps.length) (he : corrErr ps ts = 0) : (pval (backv ps) ts).length = ps.length + ts.length - 1 ∧ (corrv ps ts).length = ts.length - ps.length + 1 ∧ ∀ i, i < ts.length - ps.length + 1 → nth (corrv ps ts) i = nth (pval (backv ps) ts) (ps.length - 1 + i) := by
  have hp : perr (backv ps) ts = 0 := by rw [perr_back hm hn]; exact he
  have e1 : pval (backv ps) ts = prodv (nth (backv ps)) (nth ts) ps.length ts.length := by
    unfold pval
    rw [backv_length, if_neg (by rw [hp]; omega)]
  have e2 : corrv ps ts = slidev (nth ps) (nth ts) ps.length ts.length := by
    unfold corrv
    rw [if_neg (by rw [he]; omega)]
  rw [e1, e2]
  unfold prodv slidev
  refine ⟨mk_length _ _, mk_length _ _, fun i hi => ?_⟩
  rw [nth_mk hi, nth_mk (by omega), ← cs_slide (by omega) (by omega) hi]
  rw [cs_congr (a := nth (backv ps)) (a' := fun j => nth ps (ps.length - 1 - j)) (b' := nth ts) (fun j hj => backv_at hj) (fun _ _ => rfl)]
end Go.Proofs.Ythbbkmkaopgmdaa
