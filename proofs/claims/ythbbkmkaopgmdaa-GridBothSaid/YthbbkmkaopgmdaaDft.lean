/-
  Transforms, as plain sums modulo the primes: halves and halves make the whole transform; the transform back; products that go round.
-/
import Derived.Test.YthbbkmkaopgmdaaRes
set_option linter.unusedVariables false
namespace BG

/-! ### Sums -/
def sumTo : Nat → (Nat → Int) → Int
  | 0, _ => 0
  | n + 1, f => sumTo n f + f n
theorem sumTo_congr {n : Nat} {f g : Nat → Int} (h : ∀ i, i < n → f i = g i) : sumTo n f = sumTo n g := by
  induction n with
  | zero => rfl
  | succ n ih => simp only [sumTo]; rw [ih fun i hi => h i (by omega), h n (by omega)]
theorem Cong.sumTo {k : Int} {n : Nat} {f g : Nat → Int} (h : ∀ i, i < n → Cong k (f i) (g i)) : Cong k (sumTo n f) (sumTo n g) := by
  induction n with
  | zero => exact Cong.refl _ _
  | succ n ih => exact (ih fun i hi => h i (by omega)).add (h n (by omega))
theorem sumTo_zero {n : Nat} {f : Nat → Int} (h : ∀ i, i < n → f i = 0) : BG.sumTo n f = 0 := by
  induction n with
  | zero => rfl
  | succ n ih => simp only [BG.sumTo]; rw [ih fun i hi => h i (by omega), h n (by omega)]; rfl
theorem sumTo_add (n : Nat) (f g : Nat → Int) : BG.sumTo n (fun i => f i + g i) = BG.sumTo n f + BG.sumTo n g := by
  induction n with
  | zero => rfl
  | succ n ih => simp only [BG.sumTo]; rw [ih]; omega
theorem sumTo_sub (n : Nat) (f g : Nat → Int) : BG.sumTo n (fun i => f i - g i) = BG.sumTo n f - BG.sumTo n g := by
  induction n with
  | zero => rfl
  | succ n ih => simp only [BG.sumTo]; rw [ih]; omega
theorem sumTo_mul (n : Nat) (c : Int) (f : Nat → Int) : BG.sumTo n (fun i => c * f i) = c * BG.sumTo n f := by
  induction n with
  | zero => simp [BG.sumTo]
  | succ n ih => simp only [BG.sumTo]; rw [ih, Int.mul_add]
theorem sumTo_mul_r (n : Nat) (c : Int) (f : Nat → Int) : BG.sumTo n (fun i => f i * c) = BG.sumTo n f * c := by
  induction n with
  | zero => simp [BG.sumTo]
  | succ n ih => simp only [BG.sumTo]; rw [ih, Int.add_mul]
theorem sumTo_swap (m n : Nat) (f : Nat → Nat → Int) : BG.sumTo m (fun i => BG.sumTo n (fun j => f i j)) = BG.sumTo n (fun j => BG.sumTo m (fun i => f i j)) := by
  induction m with
  | zero => exact (sumTo_zero fun i _ => rfl).symm
  | succ m ih => simp only [BG.sumTo]; rw [ih, sumTo_add]
theorem sumTo_append (m n : Nat) (f : Nat → Int) : BG.sumTo (m + n) f = BG.sumTo m f + BG.sumTo n (fun i => f (m + i)) := by
  induction n with
  | zero => simp [BG.sumTo]
  | succ n ih => rw [← Nat.add_assoc]; simp only [BG.sumTo]; rw [ih]; omega
theorem sumTo_two (n : Nat) (f : Nat → Int) : BG.sumTo (2 * n) f = BG.sumTo n (fun i => f (2 * i)) + BG.sumTo n (fun i => f (2 * i + 1)) := by
  induction n with
  | zero => rfl
  | succ n ih =>
    rw [show 2 * (n + 1) = 2 * n + 1 + 1 from by omega]
    simp only [BG.sumTo]
    rw [ih]
    omega
/-- One place alone. -/
theorem sumTo_one {n : Nat} (t : Nat) (ht : t < n) (f : Nat → Int) (h : ∀ i, i < n → i ≠ t → f i = 0) : BG.sumTo n f = f t := by
  induction n with
  | zero => omega
  | succ n ih =>
    simp only [BG.sumTo]
    by_cases e : t = n
    · subst e
      rw [sumTo_zero fun i hi => h i (by omega) (by omega)]
      omega
    · rw [ih (by omega) fun i hi => h i (by omega), h n (by omega) (by omega)]
      omega

theorem mul4 (a b c d : Int) : (a * b) * (c * d) = (a * c) * (b * d) := by grind

/-! ### Roots -/
/-- w is a root of 1 of 2^L places: half of its turns is -1. -/
structure RootOf (k : Int) (L : Nat) (w : Int) : Prop where
  one : Cong k (w ^ (2 ^ L)) 1
  neg : ∀ M, L = M + 1 → Cong k (w ^ (2 ^ M)) (-1)
theorem RootOf.of_neg {k : Int} {M : Nat} {w : Int} (h : Cong k (w ^ (2 ^ M)) (-1)) : RootOf k (M + 1) w := by
  refine ⟨?_, fun M' e => by cases e; exact h⟩
  rw [Nat.pow_succ, Int.pow_mul]
  exact (h.pow 2).trans (by show of k ((-1) ^ 2) = of k 1; rfl)
theorem RootOf.sq {k : Int} {L : Nat} {w : Int} (h : RootOf k (L + 1) w) : RootOf k L (w ^ 2) := by
  constructor
  · rw [← Int.pow_mul, ← Nat.pow_succ']; exact h.one
  · rintro M rfl
    rw [← Int.pow_mul, ← Nat.pow_succ']; exact h.neg _ rfl
theorem RootOf.cong {k : Int} {L : Nat} {w v : Int} (h : RootOf k L w) (e : Cong k v w) : RootOf k L v :=
  ⟨(e.pow _).trans h.one, fun M hM => (e.pow _).trans (h.neg M hM)⟩
theorem RootOf.period {k : Int} {L : Nat} {w : Int} (h : RootOf k L w) (q r : Nat) : Cong k (w ^ (2 ^ L * q + r)) (w ^ r) := by
  rw [Int.pow_add, Int.pow_mul]
  have e := (h.one.pow q).mul (Cong.refl k (w ^ r))
  rw [Int.one_pow, Int.one_mul] at e
  exact e
theorem RootOf.mod {k : Int} {L : Nat} {w : Int} (h : RootOf k L w) (s : Nat) : Cong k (w ^ s) (w ^ (s % 2 ^ L)) := by
  have := h.period (s / 2 ^ L) (s % 2 ^ L)
  rw [Nat.div_add_mod] at this
  exact this

/-! ### A transform -/
def dft (k : Int) (n : Nat) (x : Nat → Int) (w : Int) (j : Nat) : Int := of k (sumTo n fun i => x i * w ^ (i * j))
theorem of_dft (k : Int) (n : Nat) (x : Nat → Int) (w : Int) (j : Nat) : of k (dft k n x w j) = dft k n x w j := of_of _ _
theorem dft_cong {k : Int} {n : Nat} {x y : Nat → Int} {w v : Int} (h : ∀ i, i < n → Cong k (x i) (y i)) (e : Cong k w v) (j : Nat) : dft k n x w j = dft k n y v j :=
  Cong.sumTo fun i hi => (h i hi).mul (e.pow _)

/-- The bits the other way round. -/
def rev : Nat → Nat → Nat
  | 0, _ => 0
  | m + 1, i => 2 ^ m * (i % 2) + rev m (i / 2)
theorem rev_lt (m : Nat) : ∀ i, rev m i < 2 ^ m := by
  induction m with
  | zero => intro i; simp [rev]
  | succ m ih =>
    intro i
    have := ih (i / 2)
    rw [rev, Nat.pow_succ]
    rcases Nat.mod_two_eq_zero_or_one i with h | h <;> rw [h] <;> omega
theorem rev_two (m b : Nat) : rev (m + 1) (2 * b) = rev m b := by
  rw [rev, Nat.mul_mod_right, Nat.mul_zero, Nat.zero_add, Nat.mul_div_cancel_left b (by decide)]
theorem rev_two1 (m b : Nat) : rev (m + 1) (2 * b + 1) = 2 ^ m + rev m b := by
  rw [rev, show (2 * b + 1) % 2 = 1 from by omega, Nat.mul_one, show (2 * b + 1) / 2 = b from by omega]
theorem rev_top (m : Nat) : ∀ i, i < 2 ^ (m + 1) → rev (m + 1) i = 2 * rev m (i % 2 ^ m) + i / 2 ^ m := by
  induction m with
  | zero => intro i h; simp [rev]; simp at h; omega
  | succ m ih =>
    intro i h
    have hp : 0 < 2 ^ m := Nat.two_pow_pos m
    rw [rev, ih (i / 2) (by rw [Nat.pow_succ] at h; omega)]
    conv => rhs; rw [rev]
    have e1 : i % 2 ^ (m + 1) % 2 = i % 2 := by rw [Nat.pow_succ', Nat.mod_mul_right_mod]
    have e2 : i % 2 ^ (m + 1) / 2 = i / 2 % 2 ^ m := by rw [Nat.pow_succ', Nat.mod_mul_right_div_self]
    have e3 : i / 2 / 2 ^ m = i / 2 ^ (m + 1) := by rw [Nat.div_div_eq_div_mul, Nat.pow_succ']
    rw [e1, e2, e3, Nat.pow_succ]
    have : 2 ^ m * 2 * (i % 2) = 2 * (2 ^ m * (i % 2)) := by rw [Nat.mul_comm (2 ^ m) 2, Nat.mul_assoc]
    omega
theorem rev_rev (m : Nat) : ∀ i, i < 2 ^ m → rev m (rev m i) = i := by
  induction m with
  | zero => intro i h; simp at h; subst h; rfl
  | succ m ih =>
    intro i h
    have hp : 0 < 2 ^ m := Nat.two_pow_pos m
    rw [rev_top m _ (rev_lt _ i)]
    have hr := rev_lt m (i / 2)
    have e : rev (m + 1) i = 2 ^ m * (i % 2) + rev m (i / 2) := rfl
    rw [e, Nat.mul_add_mod, Nat.mod_eq_of_lt hr, Nat.mul_add_div hp, Nat.div_eq_of_lt hr, ih (i / 2) (by rw [Nat.pow_succ] at h; omega)]
    omega

/-- One step over all: halves of so many places, with the powers of a root. -/
def stage (k : Int) (half : Nat) (w : Int) (f : Nat → Int) (j : Nat) : Int :=
  if j % (2 * half) < half then of k (f j + f (j + half) * w ^ (j % (2 * half)))
  else of k (f (j - half) - f j * w ^ (j % (2 * half) - half))

/-- What stands in the row behind s steps. -/
def Stands (k : Int) (L s : Nat) (w : Int) (x : Nat → Int) (f : Nat → Int) : Prop :=
  ∀ b j, b < 2 ^ (L - s) → j < 2 ^ s → f (b * 2 ^ s + j) = of k (sumTo (2 ^ s) fun i => x (i * 2 ^ (L - s) + rev (L - s) b) * w ^ (2 ^ (L - s) * (i * j)))

theorem stands_start (k : Int) (L : Nat) (w : Int) (x f : Nat → Int) (h : ∀ b, b < 2 ^ L → f b = of k (x (rev L b))) : Stands k L 0 w x f := by
  intro b j hb hj
  have : j = 0 := by simpa using hj
  subst this
  simp [sumTo]
  exact h b (by simpa using hb)

theorem stands_step {k : Int} {L s : Nat} {w : Int} {x f : Nat → Int} (hw : RootOf k L w) (hs : s < L) (h : Stands k L s w x f) (v : Int) (hv : Cong k v (w ^ (2 ^ (L - s - 1)))) :
    Stands k L (s + 1) w x (stage k (2 ^ s) v f) := by
  obtain ⟨m, hm⟩ : ∃ m, L = s + 1 + m := ⟨L - (s + 1), by omega⟩
  have hm0 : L - s = m + 1 := by omega
  have hm1 : L - (s + 1) = m := by omega
  have hm2 : L - s - 1 = m := by omega
  have hneg : Cong k (w ^ (2 ^ m * 2 ^ s)) (-1) := by
    rw [← Nat.pow_add]; exact hw.neg (m + s) (by omega)
  have hone : ∀ q, Cong k (w ^ (2 ^ (m + 1) * (q * 2 ^ s))) 1 := by
    intro q
    have e : 2 ^ (m + 1) * (q * 2 ^ s) = 2 ^ L * q + 0 := by
      rw [hm, show s + 1 + m = (m + 1) + s from by omega, Nat.pow_add 2 (m + 1) s, Nat.mul_left_comm, Nat.mul_comm q]; rfl
    rw [e]
    have := hw.period q 0
    rwa [Int.pow_zero] at this
  intro b j hb hj
  rw [hm1] at hb
  rw [hm1]
  have hps : 0 < 2 ^ s := Nat.two_pow_pos s
  -- the two rows of half as many places
  have hlo : ∀ j', j' < 2 ^ s → f (2 * b * 2 ^ s + j') = of k (sumTo (2 ^ s) fun i => x (2 * i * 2 ^ m + rev m b) * w ^ (2 ^ m * (2 * i * j'))) := by
    intro j' hj'
    rw [h (2 * b) j' (by rw [hm0, Nat.pow_succ]; omega) hj', hm0]
    refine congrArg (of k) (sumTo_congr fun i _ => ?_)
    rw [rev_two, Nat.pow_succ, show i * (2 ^ m * 2) = 2 * i * 2 ^ m from by rw [Nat.mul_comm (2 ^ m), ← Nat.mul_assoc, Nat.mul_comm i], show 2 ^ m * 2 * (i * j') = 2 ^ m * (2 * i * j') from by rw [Nat.mul_assoc, ← Nat.mul_assoc 2]]
  have hhi : ∀ j', j' < 2 ^ s → f ((2 * b + 1) * 2 ^ s + j') = of k (sumTo (2 ^ s) fun i => x ((2 * i + 1) * 2 ^ m + rev m b) * w ^ (2 ^ m * (2 * i * j'))) := by
    intro j' hj'
    rw [h (2 * b + 1) j' (by rw [hm0, Nat.pow_succ]; omega) hj', hm0]
    refine congrArg (of k) (sumTo_congr fun i _ => ?_)
    rw [rev_two1, Nat.pow_succ, show i * (2 ^ m * 2) + (2 ^ m + rev m b) = (2 * i + 1) * 2 ^ m + rev m b from by rw [Nat.add_mul, Nat.mul_comm (2 ^ m) 2, ← Nat.mul_assoc, Nat.mul_comm i]; omega, show 2 ^ m * 2 * (i * j') = 2 ^ m * (2 * i * j') from by rw [Nat.mul_assoc, ← Nat.mul_assoc 2]]
  have hvp : ∀ q, Cong k (v ^ q) (w ^ (2 ^ m * q)) := by
    intro q; rw [Int.pow_mul, ← hm2]; exact hv.pow q
  rw [Nat.pow_succ] at hj
  have hmodj : (b * 2 ^ (s + 1) + j) % (2 * 2 ^ s) = j := by
    rw [Nat.pow_succ, Nat.mul_comm (2 ^ s) 2, Nat.mul_comm b, Nat.mul_add_mod, Nat.mod_eq_of_lt (by omega)]
  have hbb : b * 2 ^ (s + 1) = 2 * b * 2 ^ s := by rw [Nat.pow_succ, Nat.mul_comm (2 ^ s) 2, ← Nat.mul_assoc, Nat.mul_comm b]
  rw [show sumTo (2 ^ (s + 1)) = sumTo (2 * 2 ^ s) from by rw [Nat.pow_succ, Nat.mul_comm (2 ^ s) 2], sumTo_two]
  unfold stage
  rw [hmodj]
  by_cases hlt : j < 2 ^ s
  · rw [if_pos hlt, hbb, show 2 * b * 2 ^ s + j + 2 ^ s = (2 * b + 1) * 2 ^ s + j from by rw [Nat.add_mul]; omega, hlo j hlt, hhi j hlt]
    refine (cong_of k _).add (((cong_of k _).mul (hvp j)).trans ?_)
    rw [← sumTo_mul_r]
    refine Cong.sumTo fun i _ => ?_
    rw [Int.mul_assoc, ← Int.pow_add, show 2 ^ m * (2 * i * j) + 2 ^ m * j = 2 ^ m * ((2 * i + 1) * j) from by rw [← Nat.mul_add, Nat.add_mul, Nat.one_mul]]
    exact Cong.refl _ _
  · rw [if_neg hlt, hbb, show 2 * b * 2 ^ s + j - 2 ^ s = 2 * b * 2 ^ s + (j - 2 ^ s) from by omega, hlo (j - 2 ^ s) (by omega)]
    rw [show 2 * b * 2 ^ s + j = (2 * b + 1) * 2 ^ s + (j - 2 ^ s) from by rw [Nat.add_mul]; omega, hhi (j - 2 ^ s) (by omega)]
    obtain ⟨j', rfl⟩ : ∃ j', j = j' + 2 ^ s := ⟨j - 2 ^ s, by omega⟩
    rw [Nat.add_sub_cancel]
    rw [Int.sub_eq_add_neg]
    refine Cong.add ((cong_of k _).trans (Cong.sumTo fun i _ => ?_)) ?_
    · refine (Cong.refl _ _).mul ?_
      rw [show 2 ^ m * (2 * i * (j' + 2 ^ s)) = 2 ^ (m + 1) * (i * 2 ^ s) + 2 ^ m * (2 * i * j') from by rw [Nat.mul_add, Nat.mul_add, Nat.pow_succ, Nat.mul_assoc (2 ^ m) 2, ← Nat.mul_assoc 2]; omega]
      rw [Int.pow_add]
      have e := ((hone i).mul (Cong.refl k (w ^ (2 ^ m * (2 * i * j'))))).symm
      rw [Int.one_mul] at e
      exact e
    · rw [show ∀ a : Int, -a = (-1) * a from fun a => by omega]
      refine ((Cong.refl k (-1)).mul ((cong_of k _).mul (hvp j'))).trans ?_
      rw [← sumTo_mul_r, ← sumTo_mul]
      refine Cong.sumTo fun i _ => ?_
      rw [Int.mul_assoc, ← Int.pow_add, Int.mul_left_comm]
      refine (Cong.refl _ _).mul ?_
      rw [show 2 ^ m * ((2 * i + 1) * (j' + 2 ^ s)) = 2 ^ (m + 1) * (i * 2 ^ s) + 2 ^ m * 2 ^ s + (2 ^ m * (2 * i * j') + 2 ^ m * j') from by
        rw [Nat.pow_succ]; grind]
      rw [Int.pow_add _ (_ + _) (_ + _), Int.pow_add _ (2 ^ (m + 1) * _)]
      have e := (((hone i).mul hneg).mul (Cong.refl k (w ^ (2 ^ m * (2 * i * j') + 2 ^ m * j')))).symm
      rw [Int.one_mul] at e
      exact e

theorem stands_end {k : Int} {L : Nat} {w : Int} {x f : Nat → Int} (h : Stands k L L w x f) (j : Nat) (hj : j < 2 ^ L) : f j = dft k (2 ^ L) x w j := by
  have e := h 0 j (by simp) hj
  rw [Nat.zero_mul, Nat.zero_add] at e
  rw [e]
  refine congrArg (of k) (sumTo_congr fun i _ => ?_)
  rw [Nat.sub_self, Nat.pow_zero, Nat.mul_one, Nat.one_mul]
  rfl

/-! ### Back -/
theorem geometric {k : Int} : ∀ (L : Nat) (w : Int) (d : Nat), RootOf k L w → d % 2 ^ L ≠ 0 → Cong k (sumTo (2 ^ L) fun j => w ^ (d * j)) 0 := by
  intro L
  induction L with
  | zero => intro w d _ h; exact absurd (Nat.mod_one d) (by simpa using h)
  | succ L ih =>
    intro w d hw h
    rw [Nat.pow_succ, Nat.mul_two, sumTo_append, ← sumTo_add]
    rcases Nat.mod_two_eq_zero_or_one d with hd | hd
    · obtain ⟨d', rfl⟩ : ∃ d', d = 2 * d' := ⟨d / 2, by omega⟩
      have h' : d' % 2 ^ L ≠ 0 := by
        intro e; apply h
        rw [Nat.pow_succ', Nat.mul_mod_mul_left, e]
      have e : Cong k (sumTo (2 ^ L) fun i => w ^ (2 * d' * i) + w ^ (2 * d' * (2 ^ L + i))) (2 * sumTo (2 ^ L) fun j => (w ^ 2) ^ (d' * j)) := by
        rw [← sumTo_mul]
        refine Cong.sumTo fun i _ => ?_
        rw [← Int.pow_mul, show ∀ a : Int, 2 * a = a + a from fun a => by omega, ← Nat.mul_assoc]
        refine (Cong.refl _ _).add ?_
        rw [show 2 * d' * (2 ^ L + i) = 2 ^ (L + 1) * d' + 2 * d' * i from by rw [Nat.pow_succ]; grind]
        exact hw.period _ _
      have := (Cong.refl k 2).mul (ih (w ^ 2) d' hw.sq h')
      rw [Int.mul_zero] at this
      exact e.trans this
    · refine (Cong.sumTo (g := fun _ => 0) fun i _ => ?_).trans (by rw [sumTo_zero fun _ _ => rfl]; exact Cong.refl _ _)
      rw [Nat.mul_add, Int.pow_add]
      have hodd : Cong k (w ^ (d * 2 ^ L)) (-1) := by
        rw [Nat.mul_comm, Int.pow_mul]
        refine ((hw.neg L rfl).pow d).trans ?_
        obtain ⟨q, rfl⟩ : ∃ q, d = 2 * q + 1 := ⟨d / 2, by omega⟩
        rw [Int.pow_succ, Int.pow_mul, show (-1 : Int) ^ 2 = 1 from rfl, Int.one_pow]
        exact Cong.refl _ _
      have e := (Cong.refl k (w ^ (d * i))).add (hodd.mul (Cong.refl k (w ^ (d * i))))
      refine e.trans ?_
      rw [show w ^ (d * i) + -1 * w ^ (d * i) = 0 from by omega]
      exact Cong.refl _ _

/-- v is w's inverse. -/
theorem RootOf.inv {k : Int} {L : Nat} {w v : Int} (hw : RootOf k L w) (hv : Cong k (w * v) 1) : RootOf k L v := by
  have hp : ∀ n, Cong k (w ^ n * v ^ n) 1 := by
    intro n; rw [← Int.mul_pow]; have := hv.pow n; rwa [Int.one_pow] at this
  constructor
  · have := (hw.one.symm.mul (Cong.refl k (v ^ 2 ^ L))).trans (hp _)
    rwa [Int.one_mul] at this
  · intro M hM
    have h1 := ((hw.neg M hM).symm.mul (Cong.refl k (v ^ 2 ^ M))).trans (hp _)
    have h2 := (Cong.refl k (-1)).mul h1
    rw [← Int.mul_assoc, show (-1 : Int) * -1 = 1 from rfl, Int.one_mul] at h2
    exact h2

theorem back_one {k : Int} {L : Nat} {w v : Int} (hw : RootOf k L w) (hv : Cong k (w * v) 1) (x : Nat → Int) (i : Nat) (hi : i < 2 ^ L) :
    Cong k (sumTo (2 ^ L) fun j => dft k (2 ^ L) x w j * v ^ (j * i)) (((2 ^ L : Nat) : Int) * x i) := by
  have hz : ∀ m j, Cong k (w ^ (m * j) * v ^ (j * i)) (w ^ ((m + (2 ^ L - 1) * i) * j)) := by
    intro m j
    have hpos : 0 < 2 ^ L := Nat.two_pow_pos L
    have e1 : Cong k (w ^ (2 ^ L - 1)) v := by
      have a1 : Cong k (w ^ (2 ^ L - 1) * (w * v)) (w ^ (2 ^ L - 1)) := by
        have := (Cong.refl k (w ^ (2 ^ L - 1))).mul hv; rwa [Int.mul_one] at this
      have a2 : Cong k (w ^ (2 ^ L - 1) * (w * v)) v := by
        rw [← Int.mul_assoc, ← Int.pow_succ, show Nat.succ (2 ^ L - 1) = 2 ^ L from by omega]
        have := hw.one.mul (Cong.refl k v); rwa [Int.one_mul] at this
      exact a1.symm.trans a2
    rw [Nat.add_mul, Int.pow_add]
    refine (Cong.refl _ _).mul ?_
    rw [Nat.mul_comm j i, Nat.mul_assoc, Int.pow_mul (a := w)]
    exact (e1.pow _).symm
  have e1 : Cong k (sumTo (2 ^ L) fun j => dft k (2 ^ L) x w j * v ^ (j * i)) (sumTo (2 ^ L) fun j => sumTo (2 ^ L) fun m => x m * w ^ ((m + (2 ^ L - 1) * i) * j)) := by
    refine Cong.sumTo fun j _ => ?_
    refine ((cong_of k _).mul (Cong.refl _ _)).trans ?_
    rw [← sumTo_mul_r]
    refine Cong.sumTo fun m _ => ?_
    rw [Int.mul_assoc]
    exact (Cong.refl _ _).mul (hz m j)
  refine e1.trans ?_
  rw [sumTo_swap]
  have e2 : Cong k (sumTo (2 ^ L) fun m => sumTo (2 ^ L) fun j => x m * w ^ ((m + (2 ^ L - 1) * i) * j)) (sumTo (2 ^ L) fun m => if m = i then ((2 ^ L : Nat) : Int) * x i else 0) := by
    refine Cong.sumTo fun m hm => ?_
    rw [sumTo_mul]
    have hpos : 0 < 2 ^ L := Nat.two_pow_pos L
    have hmod : (m + (2 ^ L - 1) * i) % 2 ^ L = (m + (2 ^ L - i)) % 2 ^ L := by
      rcases Nat.eq_zero_or_pos i with rfl | hi0
      · rw [Nat.mul_zero, Nat.sub_zero, Nat.add_mod_right]; rfl
      · have : m + (2 ^ L - 1) * i = m + (2 ^ L - i) + 2 ^ L * (i - 1) := by
          rw [Nat.sub_mul, Nat.one_mul, Nat.mul_sub, Nat.mul_one]
          have : 2 ^ L ≤ 2 ^ L * i := Nat.le_mul_of_pos_right _ hi0
          omega
        rw [this, Nat.add_mul_mod_self_left]
    by_cases e : m = i
    · subst e
      rw [if_pos rfl, Int.mul_comm]
      refine Cong.mul ?_ (Cong.refl _ _)
      have h0 : (m + (2 ^ L - 1) * m) % 2 ^ L = 0 := by rw [hmod, show m + (2 ^ L - m) = 2 ^ L from by omega, Nat.mod_self]
      have : Cong k (sumTo (2 ^ L) fun j => w ^ ((m + (2 ^ L - 1) * m) * j)) (sumTo (2 ^ L) fun _ => 1) := by
        refine Cong.sumTo fun j _ => ?_
        rw [Int.pow_mul]
        have a := (hw.mod (m + (2 ^ L - 1) * m)).pow j
        rw [h0, Int.pow_zero, Int.one_pow] at a
        exact a
      refine this.trans ?_
      have hc : ∀ n : Nat, sumTo n (fun _ => 1) = (n : Int) := by
        intro n; induction n with
        | zero => rfl
        | succ n ih => simp only [sumTo]; rw [ih]; omega
      rw [hc]
      exact Cong.refl _ _
    · rw [if_neg e]
      have hne : (m + (2 ^ L - 1) * i) % 2 ^ L ≠ 0 := by
        rw [hmod]
        by_cases hmi : m < i
        · rw [Nat.mod_eq_of_lt (by omega)]; omega
        · rw [show m + (2 ^ L - i) = (m - i) + 2 ^ L from by omega, Nat.add_mod_right, Nat.mod_eq_of_lt (by omega)]; omega
      have := (Cong.refl k (x m)).mul (geometric L w _ hw hne)
      rwa [Int.mul_zero] at this
  refine e2.trans ?_
  rw [sumTo_one i hi _ fun m _ hne => if_neg hne, if_pos rfl]
  exact Cong.refl _ _

/-- The transform back. -/
def idft (k : Int) (n : Nat) (y : Nat → Int) (w : Int) (j : Nat) : Int := mulm k (dft k n y (invm k w) j) (invm k (n : Nat))

theorem idft_dft {k : Int} {L : Nat} {w : Int} (hw : RootOf k L w) (hw0 : of k w ≠ 0) (hn : of k ((2 ^ L : Nat) : Int) ≠ 0) (x : Nat → Int) (i : Nat) (hi : i < 2 ^ L) :
    idft k (2 ^ L) (fun j => dft k (2 ^ L) x w j) w i = of k (x i) := by
  have hp : pr k ≠ 0 := fun e => hw0 (of_zero e _)
  have hv : Cong k (w * invm k w) 1 := by unfold Cong; rw [mul_invm hw0, of_one hp]
  have h1 := back_one hw hv x i hi
  have h2 : Cong k (((2 ^ L : Nat) : Int) * x i * invm k ((2 ^ L : Nat) : Int)) (x i) := by
    rw [Int.mul_comm (((2 ^ L : Nat) : Int)), Int.mul_assoc]
    have : Cong k (((2 ^ L : Nat) : Int) * invm k ((2 ^ L : Nat) : Int)) 1 := by unfold Cong; rw [mul_invm hn, of_one hp]
    have := (Cong.refl k (x i)).mul this
    rwa [Int.mul_one] at this
  unfold idft mulm
  refine Cong.trans ?_ h2
  exact ((cong_of k _).trans h1).mul (Cong.refl _ _)

/-- And the other way round. -/
theorem dft_idft {k : Int} {L : Nat} {w : Int} (hw : RootOf k L w) (hw0 : of k w ≠ 0) (hn : of k ((2 ^ L : Nat) : Int) ≠ 0) (x : Nat → Int) (i : Nat) (hi : i < 2 ^ L) :
    dft k (2 ^ L) (fun j => idft k (2 ^ L) x w j) w i = of k (x i) := by
  have hp : pr k ≠ 0 := fun e => hw0 (of_zero e _)
  have hv : Cong k (w * invm k w) 1 := by unfold Cong; rw [mul_invm hw0, of_one hp]
  have hv' : Cong k (invm k w * w) 1 := by rw [Int.mul_comm]; exact hv
  have h1 := back_one (hw.inv hv) hv' x i hi
  have h2 : Cong k (((2 ^ L : Nat) : Int) * x i * invm k ((2 ^ L : Nat) : Int)) (x i) := by
    rw [Int.mul_comm (((2 ^ L : Nat) : Int)), Int.mul_assoc]
    have : Cong k (((2 ^ L : Nat) : Int) * invm k ((2 ^ L : Nat) : Int)) 1 := by unfold Cong; rw [mul_invm hn, of_one hp]
    have := (Cong.refl k (x i)).mul this
    rwa [Int.mul_one] at this
  refine Cong.trans ?_ h2
  refine Cong.trans ?_ (h1.mul (Cong.refl k (invm k ((2 ^ L : Nat) : Int))))
  rw [← sumTo_mul_r]
  refine Cong.sumTo fun j _ => ?_
  unfold idft mulm
  rw [Int.mul_assoc (dft _ _ _ _ _), Int.mul_comm (w ^ _), ← Int.mul_assoc]
  exact (cong_of k _).mul (Cong.refl _ _)

/-! ### Products that go round -/
def cyc (n : Nat) (a b : Nat → Int) (t : Nat) : Int := sumTo n fun i => sumTo n fun j => if (i + j) % n = t then a i * b j else 0

theorem dft_cyc {k : Int} {L : Nat} {w : Int} (hw : RootOf k L w) (a b : Nat → Int) (j : Nat) :
    dft k (2 ^ L) (cyc (2 ^ L) a b) w j = mulm k (dft k (2 ^ L) a w j) (dft k (2 ^ L) b w j) := by
  have hpos : 0 < 2 ^ L := Nat.two_pow_pos L
  unfold mulm
  refine Cong.trans ?_ ((cong_of k _).mul (cong_of k _)).symm
  have e1 : sumTo (2 ^ L) (fun t => cyc (2 ^ L) a b t * w ^ (t * j)) = sumTo (2 ^ L) fun i => sumTo (2 ^ L) fun i' => a i * b i' * w ^ ((i + i') % 2 ^ L * j) := by
    have : ∀ t, cyc (2 ^ L) a b t * w ^ (t * j) = sumTo (2 ^ L) fun i => sumTo (2 ^ L) fun i' => if (i + i') % 2 ^ L = t then a i * b i' * w ^ (t * j) else 0 := by
      intro t
      unfold cyc
      rw [← sumTo_mul_r]
      refine sumTo_congr fun i _ => ?_
      rw [← sumTo_mul_r]
      refine sumTo_congr fun i' _ => ?_
      split
      · rfl
      · rw [Int.zero_mul]
    rw [sumTo_congr fun t _ => this t, sumTo_swap]
    refine sumTo_congr fun i _ => ?_
    rw [sumTo_swap]
    refine sumTo_congr fun i' _ => ?_
    rw [sumTo_one ((i + i') % 2 ^ L) (Nat.mod_lt _ hpos) _ fun t _ hne => if_neg (fun e => hne e.symm), if_pos rfl]
  rw [e1, ← sumTo_mul_r]
  refine Cong.sumTo fun i _ => ?_
  rw [← sumTo_mul]
  refine Cong.sumTo fun i' _ => ?_
  rw [mul4]
  refine (Cong.refl _ _).mul ?_
  rw [← Int.pow_add, ← Nat.add_mul, Int.pow_mul, Int.pow_mul]
  exact ((hw.mod _).pow j).symm

theorem idft_mul {k : Int} {L : Nat} {w : Int} (hw : RootOf k L w) (hw0 : of k w ≠ 0) (hn : of k ((2 ^ L : Nat) : Int) ≠ 0) (a b : Nat → Int) (i : Nat) (hi : i < 2 ^ L) :
    idft k (2 ^ L) (fun j => mulm k (dft k (2 ^ L) a w j) (dft k (2 ^ L) b w j)) w i = of k (cyc (2 ^ L) a b i) := by
  rw [← idft_dft hw hw0 hn _ i hi]
  unfold idft
  rw [dft_cong (y := fun j => dft k (2 ^ L) (cyc (2 ^ L) a b) w j) (fun j _ => by rw [dft_cyc hw]; exact Cong.refl _ _) (Cong.refl _ _)]
end BG
