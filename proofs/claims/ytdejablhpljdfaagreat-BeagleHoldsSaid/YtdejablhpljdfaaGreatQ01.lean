/-
  Texts of one claim, joined: Num, Res, Base, Eq, Sl, WCls1.
-/
import Derived.Test.YtdejablhpljdfaaGreatProg
import Derived.WalkKit
import Derived.WalkSpells
import Derived.WalkLawsBesides
import Derived.Handy
import Derived.ScopeJumps
import Derived.WalkMore
import Derived.LoopN
import Derived.Lib.Hide
import Derived.Deep.RegionHeld3
import Derived.Deep.DrawnRows
import Derived.Deep.QuietTactic
import Derived.BigQuiet
import Derived.Laws.StructEq
import Derived.OwnWalk
import Derived.Laws.OwnMore
import Derived.Maps.AppendAt
import Derived.Laws.BitsAllLaws
set_option linter.unusedVariables false
namespace BG
def IsP (p : Nat) : Prop := 2 ≤ p ∧ ∀ d, d ∣ p → d = 1 ∨ d = p
def noDiv (p : Nat) : Nat → Nat → Bool
  | 0, lo => p % lo != 0
  | n + 1, lo => noDiv p n lo && noDiv p n (lo + 2 ^ n)
theorem noDiv_spec (p : Nat) : ∀ n lo, noDiv p n lo = true → ∀ d, lo ≤ d → d < lo + 2 ^ n → p % d ≠ 0 := by
  intro n
  induction n with
  | zero =>
    intro lo h d h1 h2
    have : d = lo := by simp at h2; omega
    subst this
    simpa [noDiv] using h
  | succ n ih =>
    intro lo h d h1 h2
    rw [noDiv, Bool.and_eq_true] at h
    rw [Nat.pow_succ] at h2
    by_cases hd : d < lo + 2 ^ n
    · exact ih lo h.1 d h1 hd
    · exact ih (lo + 2 ^ n) h.2 d (by omega) (by omega)
theorem isP_of_noDiv (p n : Nat) (hp : 2 ≤ p) (h : noDiv p n 2 = true) (hn : p < (2 + 2 ^ n) * (2 + 2 ^ n)) : IsP p := by
  refine ⟨hp, fun d hd => ?_⟩
  obtain ⟨e, he⟩ := hd
  by_cases h1 : d = 1
  · exact .inl h1
  by_cases h2 : e = 1
  · right; rw [he, h2, Nat.mul_one]
  have hd0 : d ≠ 0 := by intro h0; rw [h0, Nat.zero_mul] at he; omega
  have he0 : e ≠ 0 := by intro h0; rw [h0, Nat.mul_zero] at he; omega
  exfalso
  have S := noDiv_spec p n 2 h
  by_cases hs : d < 2 + 2 ^ n
  · exact S d (by omega) hs (by rw [he]; exact Nat.mul_mod_right d e)
  by_cases hs' : e < 2 + 2 ^ n
  · exact S e (by omega) hs' (by rw [he, Nat.mul_comm]; exact Nat.mul_mod_right e d)
  have := Nat.mul_le_mul (Nat.le_of_not_lt hs) (Nat.le_of_not_lt hs')
  omega
theorem prime0 : IsP 998244353 := isP_of_noDiv _ 15 (by decide) (by decide +kernel) (by decide)
theorem prime1 : IsP 167772161 := isP_of_noDiv _ 14 (by decide) (by decide +kernel) (by decide)
theorem prime2 : IsP 469762049 := isP_of_noDiv _ 15 (by decide) (by decide +kernel) (by decide)
theorem IsP.coprime {p : Nat} (hp : IsP p) {a : Nat} (ha : ¬ p ∣ a) : Nat.Coprime p a := by
  rcases hp.2 _ (Nat.gcd_dvd_left p a) with h | h
  · exact h
  · exact absurd (h ▸ Nat.gcd_dvd_right p a) ha
theorem IsP.euclid {p : Nat} (hp : IsP p) {a b : Nat} (h : p ∣ a * b) : p ∣ a ∨ p ∣ b := by
  by_cases ha : p ∣ a
  · exact .inl ha
  · exact .inr ((hp.coprime ha).dvd_of_dvd_mul_left h)
def prodL : List Nat → Nat
  | [] => 1
  | x :: l => x * prodL l
theorem prodL_perm {l l' : List Nat} (h : l.Perm l') : prodL l = prodL l' := by
  induction h with
  | nil => rfl
  | cons x _ ih => simp [prodL, ih]
  | swap x y l => simp only [prodL]; rw [← Nat.mul_assoc, ← Nat.mul_assoc, Nat.mul_comm y x]
  | trans _ _ ih1 ih2 => exact ih1.trans ih2
theorem perm_of_nodup : ∀ (l l' : List Nat), l.Nodup → (∀ x ∈ l, x ∈ l') → l'.length ≤ l.length → l.Perm l' := by
  intro l
  induction l with
  | nil => intro l' _ _ h; have : l' = [] := List.eq_nil_of_length_eq_zero (by simpa using h); rw [this]
  | cons a l ih =>
    intro l' hn hs hl
    rw [List.nodup_cons] at hn
    have ha : a ∈ l' := hs a (List.mem_cons_self)
    have hp := List.perm_cons_erase ha
    have hlen := List.length_erase_of_mem ha
    have hpos : 0 < l'.length := List.length_pos_of_mem ha
    refine (List.Perm.cons a (ih (l'.erase a) hn.2 ?_ ?_)).trans hp.symm
    · intro x hx
      have hne : x ≠ a := fun e => hn.1 (e ▸ hx)
      exact (List.mem_erase_of_ne hne).2 (hs x (List.mem_cons_of_mem _ hx))
    · simp only [List.length_cons] at hl; omega
theorem prodL_map_mod (a p : Nat) : ∀ l : List Nat, prodL (l.map fun x => a * x % p) % p = a ^ l.length * prodL l % p := by
  intro l
  induction l with
  | nil => simp [prodL]
  | cons x l ih =>
    simp only [List.map_cons, prodL, List.length_cons]
    rw [Nat.mul_mod, Nat.mod_mod, ih, ← Nat.mul_mod]
    congr 1
    rw [Nat.pow_succ, Nat.mul_assoc, Nat.mul_assoc, Nat.mul_left_comm x, Nat.mul_left_comm a]
theorem prodL_prime {p : Nat} (hp : IsP p) : ∀ l : List Nat, (∀ x ∈ l, ¬ p ∣ x) → ¬ p ∣ prodL l := by
  intro l
  induction l with
  | nil => intro _ h; have := Nat.le_of_dvd (by decide) h; have := hp.1; simp [prodL] at *; omega
  | cons x l ih =>
    intro h hd
    rcases hp.euclid hd with h1 | h1
    · exact h x List.mem_cons_self h1
    · exact ih (fun y hy => h y (List.mem_cons_of_mem _ hy)) h1
theorem sub_dvd_of_mod_eq {p x y : Nat} (h : x % p = y % p) (hxy : y ≤ x) : p ∣ x - y := by
  have h1 := Nat.div_add_mod x p
  have h2 := Nat.div_add_mod y p
  refine ⟨x / p - y / p, ?_⟩
  rw [Nat.mul_sub]
  omega
theorem fermat {p : Nat} (hp : IsP p) {a : Nat} (ha : ¬ p ∣ a) : a ^ (p - 1) % p = 1 := by
  have h2 := hp.1
  obtain ⟨l, hl⟩ : ∃ l : List Nat, l = (List.range (p - 1)).map (· + 1) := ⟨_, rfl⟩
  have hmem : ∀ x, x ∈ l ↔ 1 ≤ x ∧ x < p := by
    intro x
    rw [hl, List.mem_map]
    constructor
    · rintro ⟨y, hy, rfl⟩
      rw [List.mem_range] at hy
      omega
    · rintro ⟨h1, h2⟩
      exact ⟨x - 1, List.mem_range.2 (by omega), by omega⟩
  have hlen : l.length = p - 1 := by rw [hl]; simp
  have hnd : l.Nodup := by
    rw [hl]
    exact List.Pairwise.map _ (fun a b h => by omega) (List.nodup_range (n := p - 1))
  have hnot : ∀ x ∈ l, ¬ p ∣ x := by
    intro x hx hd
    have := (hmem x).1 hx
    have := Nat.le_of_dvd (by omega) hd
    omega
  have hinj : ∀ x y, x < p → y < p → a * x % p = a * y % p → x ≤ y → x = y := by
    intro x y hx hy he hle
    have hd : p ∣ a * y - a * x := sub_dvd_of_mod_eq he.symm (Nat.mul_le_mul_left a hle)
    rw [← Nat.mul_sub] at hd
    rcases hp.euclid hd with h | h
    · exact absurd h ha
    · have := Nat.eq_zero_of_dvd_of_lt h (by omega)
      omega
  have hperm : (l.map fun x => a * x % p).Perm l := by
    refine perm_of_nodup _ _ ?_ ?_ ?_
    · rw [List.Nodup, List.pairwise_map]
      refine List.Pairwise.imp_of_mem ?_ hnd
      intro x y hx hy hne he
      have h1 := (hmem x).1 hx
      have h2 := (hmem y).1 hy
      rcases Nat.le_total x y with h | h
      · exact hne (hinj x y h1.2 h2.2 he h)
      · exact hne (hinj y x h2.2 h1.2 he.symm h).symm
    · intro x hx
      rw [List.mem_map] at hx
      obtain ⟨y, hy, rfl⟩ := hx
      rw [hmem]
      have hlt := Nat.mod_lt (a * y) (show p > 0 by omega)
      refine ⟨?_, hlt⟩
      rcases Nat.eq_zero_or_pos (a * y % p) with h0 | h0
      · exfalso
        rcases hp.euclid (Nat.dvd_of_mod_eq_zero h0) with h | h
        · exact ha h
        · exact hnot y hy h
      · exact h0
    · simp
  have e := prodL_map_mod a p l
  rw [prodL_perm hperm, hlen] at e
  have hpos : 0 < prodL l := by
    rcases Nat.eq_zero_or_pos (prodL l) with h0 | h0
    · exact absurd (h0 ▸ Nat.dvd_zero p) (prodL_prime hp l hnot)
    · exact h0
  have hapos : 0 < a := by
    rcases Nat.eq_zero_or_pos a with h0 | h0
    · exact absurd (h0 ▸ Nat.dvd_zero p) ha
    · exact h0
  have hpw : 1 ≤ a ^ (p - 1) := Nat.pow_pos hapos
  have hd : p ∣ a ^ (p - 1) * prodL l - prodL l := sub_dvd_of_mod_eq e.symm (Nat.le_mul_of_pos_left _ hpw)
  have hd' : p ∣ (a ^ (p - 1) - 1) * prodL l := by rw [Nat.sub_mul, Nat.one_mul]; exact hd
  rcases hp.euclid hd' with h | h
  · obtain ⟨c, hc⟩ := h
    have : a ^ (p - 1) = 1 + p * c := by omega
    rw [this, Nat.add_mul_mod_self_left, Nat.mod_eq_of_lt (by omega)]
  · exact absurd h (prodL_prime hp l hnot)
end BG
set_option linter.unusedVariables false
namespace BG
def pr (k : Int) : Int := if k = 0 then 998244353 else if k = 1 then 167772161 else if k = 2 then 469762049 else 0
theorem pr0 : pr 0 = 998244353 := by simp [pr]
theorem pr1 : pr 1 = 167772161 := by simp [pr]
theorem pr2 : pr 2 = 469762049 := by simp [pr]
theorem pr_cases (k : Int) : (k = 0 ∧ pr k = 998244353) ∨ (k = 1 ∧ pr k = 167772161) ∨ (k = 2 ∧ pr k = 469762049) ∨ ((k < 0 ∨ 3 ≤ k) ∧ pr k = 0) := by
  unfold pr
  by_cases h0 : k = 0
  · simp [h0]
  by_cases h1 : k = 1
  · simp [h1]
  by_cases h2 : k = 2
  · simp [h2]
  · rw [if_neg h0, if_neg h1, if_neg h2]; omega
theorem pr_range (k : Int) : 0 ≤ pr k ∧ pr k ≤ 998244353 := by have := pr_cases k; omega
theorem pr_big {k : Int} (h : pr k ≠ 0) : 167772161 ≤ pr k := by have := pr_cases k; omega
theorem pr_prime {k : Int} (h : pr k ≠ 0) : IsP (pr k).toNat := by
  rcases pr_cases k with ⟨_, e⟩ | ⟨_, e⟩ | ⟨_, e⟩ | ⟨_, e⟩
  · rw [e]; exact prime0
  · rw [e]; exact prime1
  · rw [e]; exact prime2
  · exact absurd e h
def of (k a : Int) : Int := if pr k = 0 then 0 else a % pr k
theorem of_zero {k : Int} (h : pr k = 0) (a : Int) : of k a = 0 := by simp [of, h]
theorem of_eq {k : Int} (h : pr k ≠ 0) (a : Int) : of k a = a % pr k := by simp [of, h]
theorem of_nonneg (k a : Int) : 0 ≤ of k a := by
  have := pr_range k
  unfold of; split
  · exact Int.le_refl 0
  · exact Int.emod_nonneg _ (by assumption)
theorem of_lt {k : Int} (h : pr k ≠ 0) (a : Int) : of k a < pr k := by
  have := pr_range k
  rw [of_eq h]; exact Int.emod_lt_of_pos _ (by omega)
theorem of_le (k a : Int) : of k a ≤ 998244352 := by
  by_cases h : pr k = 0
  · rw [of_zero h]; omega
  · have := of_lt h a; have := pr_range k; omega
theorem of_bd (k a : Int) : 0 ≤ of k a ∧ of k a ≤ 998244352 := ⟨of_nonneg k a, of_le k a⟩
def Cong (k a b : Int) : Prop := of k a = of k b
theorem Cong.refl (k a : Int) : Cong k a a := rfl
theorem Cong.symm {k a b : Int} (h : Cong k a b) : Cong k b a := Eq.symm h
theorem Cong.trans {k a b c : Int} (h : Cong k a b) (h' : Cong k b c) : Cong k a c := Eq.trans h h'
theorem cong_of (k a : Int) : Cong k (of k a) a := by
  unfold Cong
  by_cases h : pr k = 0
  · rw [of_zero h, of_zero h]
  · rw [of_eq h, of_eq h, Int.emod_emod]
theorem of_of (k a : Int) : of k (of k a) = of k a := cong_of k a
theorem Cong.add {k a b c d : Int} (h : Cong k a b) (h' : Cong k c d) : Cong k (a + c) (b + d) := by
  unfold Cong at *
  by_cases hp : pr k = 0
  · rw [of_zero hp, of_zero hp]
  · rw [of_eq hp, of_eq hp] at *
    rw [Int.add_emod, h, h', ← Int.add_emod]
theorem Cong.mul {k a b c d : Int} (h : Cong k a b) (h' : Cong k c d) : Cong k (a * c) (b * d) := by
  unfold Cong at *
  by_cases hp : pr k = 0
  · rw [of_zero hp, of_zero hp]
  · rw [of_eq hp, of_eq hp] at *
    rw [Int.mul_emod, h, h', ← Int.mul_emod]
theorem Cong.sub {k a b c d : Int} (h : Cong k a b) (h' : Cong k c d) : Cong k (a - c) (b - d) := by
  unfold Cong at *
  by_cases hp : pr k = 0
  · rw [of_zero hp, of_zero hp]
  · rw [of_eq hp, of_eq hp] at *
    rw [Int.sub_emod, h, h', ← Int.sub_emod]
theorem Cong.pow {k a b : Int} (h : Cong k a b) (n : Nat) : Cong k (a ^ n) (b ^ n) := by
  induction n with
  | zero => rw [Int.pow_zero, Int.pow_zero]; exact Cong.refl _ _
  | succ n ih => rw [Int.pow_succ, Int.pow_succ]; exact ih.mul h
theorem cong_pr (k a b : Int) : Cong k (a + pr k * b) a := by
  unfold Cong
  by_cases hp : pr k = 0
  · rw [of_zero hp, of_zero hp]
  · rw [of_eq hp, of_eq hp, Int.add_mul_emod_self_left]
theorem of_small {k a : Int} (h0 : 0 ≤ a) (h1 : a < pr k) : of k a = a := by
  have : pr k ≠ 0 := by omega
  rw [of_eq this, Int.emod_eq_of_lt h0 h1]
theorem of_add_l (k a b : Int) : of k (of k a + b) = of k (a + b) := (cong_of k a).add (Cong.refl k b)
theorem of_add_r (k a b : Int) : of k (a + of k b) = of k (a + b) := (Cong.refl k a).add (cong_of k b)
theorem of_mul_l (k a b : Int) : of k (of k a * b) = of k (a * b) := (cong_of k a).mul (Cong.refl k b)
theorem of_mul_r (k a b : Int) : of k (a * of k b) = of k (a * b) := (Cong.refl k a).mul (cong_of k b)
theorem of_sub_l (k a b : Int) : of k (of k a - b) = of k (a - b) := (cong_of k a).sub (Cong.refl k b)
theorem of_sub_r (k a b : Int) : of k (a - of k b) = of k (a - b) := (Cong.refl k a).sub (cong_of k b)
def addm (k a b : Int) : Int := of k (a + b)
def subm (k a b : Int) : Int := of k (a - b)
def mulm (k a b : Int) : Int := of k (a * b)
def pw (k a n : Int) : Int := of k (a ^ n.toNat)
theorem addm_is (k a b : Int) : of k (of k a + of k b) = addm k a b := by rw [of_add_l, of_add_r]; rfl
theorem mulm_is (k a b : Int) : of k (of k a * of k b) = mulm k a b := by rw [of_mul_l, of_mul_r]; rfl
theorem subm_is (k a b : Int) : of k (of k a + pr k - of k b) = subm k a b := by
  rw [of_sub_r, show of k a + pr k - b = (of k a - b) + pr k * 1 from by omega, cong_pr, of_sub_l]; rfl
theorem subm_bd (k a b : Int) : 0 ≤ subm k a b ∧ subm k a b ≤ 998244352 := of_bd k _
theorem mulm_bd (k a b : Int) : 0 ≤ mulm k a b ∧ mulm k a b ≤ 998244352 := of_bd k _
theorem pw_bd (k a n : Int) : 0 ≤ pw k a n ∧ pw k a n ≤ 998244352 := of_bd k _
theorem of_mulm (k a b : Int) : of k (mulm k a b) = mulm k a b := of_of k _
theorem of_pw (k a n : Int) : of k (pw k a n) = pw k a n := of_of k _
theorem pw_zero (k a : Int) : pw k a 0 = of k 1 := by simp [pw]
theorem pw_add (k a : Int) {m n : Int} (hm : 0 ≤ m) (hn : 0 ≤ n) : pw k a (m + n) = mulm k (pw k a m) (pw k a n) := by
  unfold pw mulm
  rw [Int.toNat_add hm hn, Int.pow_add, of_mul_l, of_mul_r]
theorem pw_mul (k a : Int) {m n : Int} (hm : 0 ≤ m) (hn : 0 ≤ n) : pw k (pw k a m) n = pw k a (m * n) := by
  unfold pw
  rw [(cong_of k _).pow n.toNat, Int.toNat_mul hm hn, Int.pow_mul]
theorem pw_of (k a n : Int) : pw k (of k a) n = pw k a n := (cong_of k a).pow n.toNat
def powFast (p : Nat) : Nat → Nat → Nat → Nat
  | 0, _, _ => 1 % p
  | f + 1, a, n => if n = 0 then 1 % p else if n % 2 = 1 then powFast p f (a * a % p) (n / 2) * a % p else powFast p f (a * a % p) (n / 2)
theorem powFast_eq (p : Nat) : ∀ f a n, n < 2 ^ f → powFast p f a n = a ^ n % p := by
  intro f
  induction f with
  | zero => intro a n h; have : n = 0 := by simpa using h
            subst this; simp [powFast]
  | succ f ih =>
    intro a n h
    rw [Nat.pow_succ] at h
    unfold powFast
    by_cases h0 : n = 0
    · subst h0; simp
    rw [if_neg h0, ih _ _ (by omega)]
    have e2 : (a * a % p) ^ (n / 2) % p = (a * a) ^ (n / 2) % p := by rw [← Nat.pow_mod]
    have e3 : (a * a) ^ (n / 2) = a ^ (2 * (n / 2)) := by rw [Nat.pow_mul, Nat.pow_two]
    by_cases h1 : n % 2 = 1
    · rw [if_pos h1, e2, e3, Nat.mod_mul_mod, ← Nat.pow_succ, show (2 * (n / 2)).succ = n from by omega]
    · rw [if_neg h1, e2, e3, show 2 * (n / 2) = n from by omega]
theorem pw_fast {k : Int} (p a n : Nat) (hp : pr k = p) (h0 : p ≠ 0) (f : Nat) (hn : n < 2 ^ f) : pw k (a : Int) (n : Int) = (powFast p f a n : Nat) := by
  unfold pw
  have : pr k ≠ 0 := by omega
  rw [of_eq this, hp, powFast_eq p f a n hn, Int.toNat_natCast, Int.natCast_emod, Int.natCast_pow]
theorem pr_dvd {k : Int} (h : pr k ≠ 0) {a : Int} (h0 : 0 ≤ a) : (pr k).toNat ∣ a.toNat ↔ of k a = 0 := by
  have hr := pr_range k
  rw [of_eq h, Nat.dvd_iff_mod_eq_zero]
  have e : ((a.toNat % (pr k).toNat : Nat) : Int) = a % pr k := by
    rw [Int.natCast_emod, Int.toNat_of_nonneg h0, Int.toNat_of_nonneg hr.1]
  omega
theorem pw_fermat {k : Int} {a : Int} (ha : of k a ≠ 0) : pw k a (pr k - 1) = 1 := by
  have h : pr k ≠ 0 := fun e => ha (of_zero e a)
  have hr := pr_range k
  have hb := pr_big h
  rw [← pw_of]
  have h0 := of_nonneg k a
  obtain ⟨n, hn⟩ := Int.eq_ofNat_of_zero_le h0
  have hnd : ¬ (pr k).toNat ∣ n := by
    intro hd
    have := (pr_dvd h (a := of k a) h0).1 (by rw [hn]; exact hd)
    rw [of_of] at this
    exact ha this
  have F := fermat (pr_prime h) hnd
  unfold pw
  rw [hn, of_eq h, show (pr k - 1).toNat = (pr k).toNat - 1 from by omega]
  have e : ((n ^ ((pr k).toNat - 1) % (pr k).toNat : Nat) : Int) = (n : Int) ^ ((pr k).toNat - 1) % pr k := by
    rw [Int.natCast_emod, Int.natCast_pow, Int.toNat_of_nonneg hr.1]
  rw [← e, F]; rfl
def invm (k a : Int) : Int := if of k a = 0 then 0 else pw k a (pr k - 2)
theorem invm_bd (k a : Int) : 0 ≤ invm k a ∧ invm k a ≤ 998244352 := by
  unfold invm; split
  · omega
  · exact pw_bd _ _ _
theorem of_one {k : Int} (h : pr k ≠ 0) : of k 1 = 1 := of_small (by omega) (by have := pr_big h; omega)
theorem mul_invm {k a : Int} (ha : of k a ≠ 0) : of k (a * invm k a) = 1 := by
  have h : pr k ≠ 0 := fun e => ha (of_zero e a)
  have hb := pr_big h
  rw [invm, if_neg ha, ← pw_fermat ha]
  have e := pw_add k a (m := 1) (n := pr k - 2) (by omega) (by omega)
  rw [show 1 + (pr k - 2) = pr k - 1 from by omega] at e
  rw [e]
  unfold mulm
  rw [show pw k a 1 = of k a from by unfold pw; rw [show (1 : Int).toNat = 1 from rfl, show a ^ 1 = a from by rw [Int.pow_succ, Int.pow_zero, Int.one_mul]], of_mul_l]
theorem pw_at (p a n : Nat) {k : Int} (f : Nat) (r : Nat) (hp : pr k = p) (h0 : p ≠ 0) (hn : n < 2 ^ f) (h : powFast p f a n = r) : pw k (a : Int) (n : Int) = (r : Int) := by
  rw [pw_fast p a n hp h0 f hn, h]
theorem root_0_1 : pw 0 3 499122176 = 998244352 := pw_at 998244353 3 499122176 30 998244352 pr0 (by decide) (by decide) (by decide +kernel)
def rootm (k : Int) (l : Nat) : Int := pw k 3 ((pr k - 1) / (2 ^ l : Nat))
theorem rootm_is (k : Int) (l : Nat) : pw k 3 ((pr k - 1) / 2 ^ l) = rootm k l := by unfold rootm; rw [Int.natCast_pow]; rfl
theorem root_half0 : pw 0 3 ((998244353 - 1) / 2) = 998244352 := root_0_1
theorem root_half1 : pw 1 3 ((167772161 - 1) / 2) = 167772160 := pw_at 167772161 3 83886080 30 167772160 pr1 (by decide) (by decide) (by decide +kernel)
theorem root_half2 : pw 2 3 ((469762049 - 1) / 2) = 469762048 := pw_at 469762049 3 234881024 30 469762048 pr2 (by decide) (by decide) (by decide +kernel)
theorem root_half {k : Int} (h : pr k ≠ 0) : pw k 3 ((pr k - 1) / 2) = pr k - 1 := by
  rcases pr_cases k with ⟨rfl, e⟩ | ⟨rfl, e⟩ | ⟨rfl, e⟩ | ⟨_, e⟩
  · rw [e]; exact root_half0
  · rw [e]; exact root_half1
  · rw [e]; exact root_half2
  · exact absurd e h
theorem pr_pow {k : Int} (h : pr k ≠ 0) (l : Nat) (hl : l ≤ 12) : (pr k - 1) % (2 ^ l : Nat) = 0 := by
  have hl' : l = 0 ∨ l = 1 ∨ l = 2 ∨ l = 3 ∨ l = 4 ∨ l = 5 ∨ l = 6 ∨ l = 7 ∨ l = 8 ∨ l = 9 ∨ l = 10 ∨ l = 11 ∨ l = 12 := by omega
  have e : pr k = 998244353 ∨ pr k = 167772161 ∨ pr k = 469762049 := by have := pr_cases k; omega
  rcases e with e | e | e <;> rw [e] <;> rcases hl' with rfl | rfl | rfl | rfl | rfl | rfl | rfl | rfl | rfl | rfl | rfl | rfl | rfl <;> rfl
theorem of_three {k : Int} (h : pr k ≠ 0) : of k 3 ≠ 0 := by
  rw [of_small (by omega) (by have := pr_big h; omega)]; omega
theorem rootm_pow {k : Int} (h : pr k ≠ 0) {l : Nat} (hl : l ≤ 12) : pw k (rootm k l) ((2 ^ l : Nat) : Int) = 1 := by
  have hr := pr_big h
  unfold rootm
  have hpos : (0 : Int) ≤ (2 ^ l : Nat) := Int.natCast_nonneg _
  rw [pw_mul k 3 (Int.ediv_nonneg (by omega) hpos) hpos, Int.ediv_mul_cancel_of_emod_eq_zero (pr_pow h l hl)]
  exact pw_fermat (of_three h)
theorem rootm_half {k : Int} (h : pr k ≠ 0) {l : Nat} (hl : l + 1 ≤ 12) : pw k (rootm k (l + 1)) ((2 ^ l : Nat) : Int) = pr k - 1 := by
  have hr := pr_big h
  have hpos : (0 : Int) < (2 ^ l : Nat) := by have := Nat.two_pow_pos l; omega
  unfold rootm
  have hpos2 : (0 : Int) ≤ (2 ^ (l + 1) : Nat) := Int.natCast_nonneg _
  rw [pw_mul k 3 (Int.ediv_nonneg (by omega) hpos2) (by omega)]
  refine Eq.trans (congrArg (pw k 3) ?_) (root_half h)
  have hz := pr_pow h (l + 1) hl
  have e2 : ((2 ^ (l + 1) : Nat) : Int) = 2 * ((2 ^ l : Nat) : Int) := by rw [Nat.pow_succ, Int.natCast_mul, Int.mul_comm]; rfl
  rw [e2] at hz ⊢
  obtain ⟨c, hc⟩ := Int.dvd_of_emod_eq_zero hz
  rw [hc, Int.mul_ediv_cancel_left c (by omega), Int.mul_assoc, Int.mul_ediv_cancel_left _ (by decide), Int.mul_comm]
theorem rootm_bd (k : Int) (l : Nat) : 0 ≤ rootm k l ∧ rootm k l ≤ 998244352 := pw_bd _ _ _
theorem rootm_ne {k : Int} (h : pr k ≠ 0) {l : Nat} (hl : l ≤ 12) : of k (rootm k l) ≠ 0 := by
  intro e
  have h1 := rootm_pow h hl
  rw [← pw_of, e] at h1
  have : (2 ^ l : Nat) ≠ 0 := by have := Nat.two_pow_pos l; omega
  unfold pw at h1
  rw [Int.toNat_natCast, Int.zero_pow this, of_eq h, Int.zero_emod] at h1
  omega
end BG
set_option linter.unusedVariables false
namespace Go.Proofs.YtdejablhpljdfaaGreat
open Go.RowKit
abbrev Kept (w w' : World) : Prop := Below w.heap.size w w'
theorem kept_refl (w : World) : Kept w w := Below.refl _ _
theorem kept_trans {w w1 w2 : World} (h : Kept w w1) (h' : Kept w1 w2) : Kept w w2 := h.trans (h'.mono h.size)
theorem kept_alloc {w w1 : World} (h : Kept w w1) (o : Obj) : Kept w (w1.alloc o) := h.alloc h.size o
theorem kept_drew {w w1 : World} (h : Kept w w1) : Kept w w1.drew := h.drew
theorem kept_drewN {w w1 : World} (h : Kept w w1) (n : Nat) : Kept w (w1.drewN n) := ⟨h.os, h.tape, h.output, h.size, h.block⟩
theorem kept_cell {w w1 : World} (h : Kept w w1) {a : Addr} {v : Value} (hc : w.cell? a = some v) : w1.cell? a = some v := (h.cell (World.block_lt_of_cell? w a hc)).trans hc
def Ret (v : Value) (w : World) (e : Ending) (w' : World) : Prop := e = .returned v ∧ Kept w w'
structure KW (w : World) where
  val : World
  kept : Kept w val
instance kwNonempty (w : World) : Nonempty (KW w) := ⟨⟨w, kept_refl w⟩⟩
theorem wp_region_kept {P : Program} {id : Nat} {Q : Exit → Act → World → Prop} {a : Act} {w : World} {l : List Oper} (hm : P.follows .mixedOrders = true) (hB : Region.lexB .any l.toArray = true)
    (h : wpQuiet P l.toArray (fun w' => ∃ s : KW w, w' = s.val) (fun a' => ∀ w', (∃ s : KW w, w' = s.val) → Q .normal a' w') l a) : (Code.region id l.toArray true).wp P Q a w :=
  wp_region_quiet (C := fun w' => ∃ s : KW w, w' = s.val) hm hB ⟨⟨w.drew, kept_drew (kept_refl w)⟩, rfl⟩ (by simpa using h)
theorem call_kept {P : Program} {f : FuncId} {args : Array Value} {w : World} {s : KW w} {v : Value} (h : Calls P f args s.val (Ret v s.val)) :
    Calls P f args s.val fun e w'' => e = .returned v ∧ ∃ s' : KW w, w'' = s'.val :=
  h.mono fun _ w'' ⟨he, hk⟩ => ⟨he, ⟨w'', kept_trans s.kept hk⟩, rfl⟩
theorem kw_cell {w : World} (s : KW w) {a : Addr} {v : Value} (hc : w.cell? a = some v) : s.val.cell? a = some v := kept_cell s.kept hc
theorem blk_new (w : World) (o : Obj) : (w.alloc o).heap[w.heap.size]? = some o := by
  show (w.heap.push o)[w.heap.size]? = _
  simp
theorem blk_lt {w : World} {g : Nat} {o : Obj} (h : w.heap[g]? = some o) : g < w.heap.size := (Array.getElem?_eq_some_iff.1 h).1
theorem blk_alloc {w : World} {g : Nat} {o : Obj} (h : w.heap[g]? = some o) (o' : Obj) : (w.alloc o').heap[g]? = some o := (Below.heap_alloc w o' g (blk_lt h)).trans h
theorem blk_kept {w w1 : World} {g : Nat} {o : Obj} (hk : Kept w w1) (h : w.heap[g]? = some o) : w1.heap[g]? = some o := (hk.block g (blk_lt h)).trans h
theorem blk_set {w : World} {g : Nat} {t : TypeId} {cs : Array Value} (h : w.heap[g]? = some (.cells cs t (0, 0))) (i : Nat) (u : Value) : (w.setCell ⟨g, i, none⟩ u).heap[g]? = some (.cells (cs.setIfInBounds i u) t (0, 0)) := by
  simp [World.setCell, Array.getElem?_modify, h]
theorem blk_far {w : World} {g : Nat} {o : Obj} (h : w.heap[g]? = some o) {p : Addr} (hp : g ≠ p.block) (u : Value) : (w.setCell p u).heap[g]? = some o := (Below.heap_setCell w p u g hp).trans h
theorem blk_cell {w : World} {g : Nat} {t : TypeId} {cs : Array Value} (h : w.heap[g]? = some (.cells cs t (0, 0))) (i : Nat) : w.cell? ⟨g, i, none⟩ = cs[i]? := cell_of_row w g i cs t (0, 0) h
theorem blk_frozen {w : World} {g : Nat} {t : TypeId} {cs : Array Value} (h : w.heap[g]? = some (.cells cs t (0, 0))) (i : Nat) : w.frozen? ⟨g, i, none⟩ = false := by simp [World.frozen?, h]
theorem cell_far {w : World} {a : Addr} {v : Value} (hc : w.cell? a = some v) {p : Addr} (hp : a.block ≠ p.block) (u : Value) : (w.setCell p u).cell? a = some v :=
  (World.cell?_of_block (w := w) (Below.heap_setCell w p u a.block hp)).trans hc
theorem kept_set {w w1 : World} (h : Kept w w1) {p : Addr} (hp : w.heap.size ≤ p.block) (u : Value) : Kept w (w1.setCell p u) := h.setCell hp u
end Go.Proofs.YtdejablhpljdfaaGreat
set_option linter.unusedVariables false
namespace Go.Proofs.YtdejablhpljdfaaGreat
open Go.RowKit
theorem all_range_int : ∀ (xs ys : List Int), xs.length = ys.length → ((List.range xs.length).all fun i => xs.getD i 0 == ys.getD i 0) = (xs == ys)
  | [], [], _ => rfl
  | x :: xs, y :: ys, h => by
    have ih := all_range_int xs ys (by simpa using h)
    rw [List.length_cons, List.range_succ_eq_map, List.all_cons, List.all_map]
    simp only [List.getD_cons_zero, Function.comp_def, List.getD_cons_succ, ih]
    simp [List.cons_beq_cons]
  | [], _ :: _, h => by simp at h
  | _ :: _, [], h => by simp at h
section
variable {P : Program} (w : World)
theorem run_equalIn_ints (k : IntKind) (d : Nat) (t e : TypeId) (n : Nat) (ht : P.underlying t = some (.array n e)) (he : P.underlying e = some (.int k)) (hsz : ∀ w, (sizeOf e).run P w = .ok 1 w)
    (xs ys : List Int) (hx : xs.length = n) (hy : ys.length = n) :
    (Op.equalIn (d + 2) t (.agg (xs.map (Value.int k)).toArray) (.agg (ys.map (Value.int k)).toArray)).run P w = .ok (xs == ys) w := by
  rw [← all_range_int xs ys (hx.trans hy.symm), hx, List.range_eq_range', Op.equalIn]
  simp only [Sem.run_bind, run_underlying ht, Result.andThen_ok, hsz, Std.Legacy.Range.forIn_eq_forIn_range', Std.Legacy.Range.size, Nat.sub_zero, Nat.add_sub_cancel, Nat.div_one]
  have hl : ∀ i ∈ List.range' 0 n 1, i < n := fun i hi => by simpa using (List.mem_range'_1.1 hi).2
  generalize List.range' 0 n 1 = l at hl ⊢
  induction l with
  | nil => simp
  | cons i l ih =>
    have hi : i < n := hl i (by simp)
    have px : (part e (xs.map (Value.int k)).toArray (i * 1)).run P w = .ok (Value.int k (xs.getD i 0)) w := by
      simp [part, isAgg, run_underlying he, List.getD, List.getElem?_eq_getElem (show i < xs.length by omega)]
    have py : (part e (ys.map (Value.int k)).toArray (i * 1)).run P w = .ok (Value.int k (ys.getD i 0)) w := by
      simp [part, isAgg, run_underlying he, List.getD, List.getElem?_eq_getElem (show i < ys.length by omega)]
    have pe : (Op.equalIn (d + 1) e (Value.int k (xs.getD i 0)) (Value.int k (ys.getD i 0))).run P w = .ok (xs.getD i 0 == ys.getD i 0) w := run_equalIn_int w d e k k _ _ he
    simp only [List.forIn_cons, Sem.run_bind, px, py, pe, Result.andThen_ok, List.all_cons]
    cases hb : (xs.getD i 0 == ys.getD i 0)
    · simp
    · simp only [Bool.not_true, Bool.false_eq_true, if_false, Sem.run_pure, Result.andThen_ok, Bool.true_and]
      exact ih fun j hj => hl j (by simp [hj])
end
end Go.Proofs.YtdejablhpljdfaaGreat
set_option linter.unusedVariables false
namespace Go.Proofs.YtdejablhpljdfaaGreat
open Go.RowKit
def nth (xs : List Int) (j : Nat) : Int := xs.getD j 0
theorem nth_lt {xs : List Int} {j : Nat} (h : j < xs.length) : nth xs j = xs[j] := by simp [nth, h]
theorem nth_append_l {xs ys : List Int} {j : Nat} (h : j < xs.length) : nth (xs ++ ys) j = nth xs j := by
  unfold nth; rw [List.getD_eq_getElem?_getD, List.getElem?_append_left h, ← List.getD_eq_getElem?_getD]
theorem nth_take {xs : List Int} {n j : Nat} (h : j < n) : nth (xs.take n) j = nth xs j := by
  unfold nth; rw [List.getD_eq_getElem?_getD, List.getElem?_take, if_pos h, ← List.getD_eq_getElem?_getD]
theorem nth_ext {xs ys : List Int} (hl : xs.length = ys.length) (h : ∀ j, j < xs.length → nth xs j = nth ys j) : xs = ys := by
  refine List.ext_getElem hl fun j h1 h2 => ?_
  have := h j h1
  rwa [nth_lt h1, nth_lt h2] at this
def mk (n : Nat) (f : Nat → Int) : List Int := (List.range n).map f
theorem mk_length (n : Nat) (f : Nat → Int) : (mk n f).length = n := by simp [mk]
theorem nth_mk {n : Nat} {f : Nat → Int} {j : Nat} (h : j < n) : nth (mk n f) j = f j := by simp [nth, mk, h]
theorem mk_succ (n : Nat) (f : Nat → Int) : mk (n + 1) f = mk n f ++ [f n] := by simp [mk, List.range_succ]
theorem mk_congr {n : Nat} {f g : Nat → Int} (h : ∀ j, j < n → f j = g j) : mk n f = mk n g := by
  unfold mk; exact List.map_congr_left fun j hj => h j (List.mem_range.1 hj)
theorem mk_nth (xs : List Int) : mk xs.length (nth xs) = xs := nth_ext (mk_length _ _) fun j hj => nth_mk (by simpa [mk_length] using hj)
def Rd (k : IntKind) (w : World) (A : Option Addr) (xs : List Int) : Prop :=
  xs.length ≤ 9223372036854775807 ∧ (0 < xs.length → ∃ ad, A = some ad ∧ ∀ j, j < xs.length → w.cell? (ad.add j) = some (.int k (nth xs j)))
theorem Rd.at_ {k : IntKind} {w : World} {A : Option Addr} {xs : List Int} (h : Rd k w A xs) {j : Nat} (hj : j < xs.length) : ∃ ad, A = some ad ∧ w.cell? (ad.add j) = some (.int k (nth xs j)) := by
  obtain ⟨ad, e, hc⟩ := h.2 (by omega)
  exact ⟨ad, e, hc j hj⟩
theorem Rd.kept {k : IntKind} {w w1 : World} {A : Option Addr} {xs : List Int} (h : Rd k w A xs) (hk : Kept w w1) : Rd k w1 A xs :=
  ⟨h.1, fun hn => by
    obtain ⟨ad, e, hc⟩ := h.2 hn
    exact ⟨ad, e, fun j hj => kept_cell hk (hc j hj)⟩⟩
theorem Rd.nil (k : IntKind) (w : World) (A : Option Addr) : Rd k w A [] := ⟨by simp, fun h => absurd h (by simp)⟩
def Own (k : IntKind) (e : TypeId) (base : Nat) (w : World) (v : Value) (xs : List Int) : Prop := w.ownsRow base e 1 v xs.length (xs.map (Value.int k))
theorem Own.nil (k : IntKind) (e : TypeId) (base : Nat) (w : World) : Own k e base w (.slice none 0 0) [] := ⟨by simp, .inl ⟨rfl, rfl⟩⟩
theorem Own.rd {k : IntKind} {e : TypeId} {base : Nat} {w : World} {v : Value} {xs : List Int} (h : Own k e base w v xs) : ∃ A c, v = .slice A xs.length c ∧ xs.length ≤ c ∧ c ≤ 9223372036854775807 ∧ Rd k w A xs := by
  rcases Nat.eq_zero_or_pos xs.length with h0 | h0
  · rcases h.2 with ⟨rfl, _⟩ | ⟨g, cap, cur, rfl, _, _, h1, h2, _⟩
    · exact ⟨none, 0, by rw [h0], by omega, by omega, by omega, fun hp => absurd hp (by omega)⟩
    · exact ⟨_, cap, rfl, h1, by unfold maxLen at h2; omega, by omega, fun hp => absurd hp (by omega)⟩
  · rcases h.2 with ⟨_, h1⟩ | ⟨g, cap, cur, he, _, _, h1, h2, _⟩
    · omega
    · subst he
      refine ⟨_, cap, rfl, h1, by unfold maxLen at h2; omega, by unfold maxLen at h2; omega, fun _ => ⟨_, rfl, fun j hj => World.ownsRow.cells h (g := g) rfl j _ ?_⟩⟩
      rw [List.getElem?_map, List.getElem?_eq_getElem hj, Option.map_some, nth_lt hj]
theorem Own.kept {k : IntKind} {e : TypeId} {base : Nat} {w w1 : World} {v : Value} {xs : List Int} (h : Own k e base w v xs) (hk : Kept w w1) : Own k e base w1 v xs :=
  World.ownsRow.kept h (⟨hk.os, hk.tape, hk.output, hk.size, fun i hi _ => hk.block i hi⟩ : w.grownBy w1 none) (by cases v.ownBlock <;> simp)
theorem Own.less {k : IntKind} {e : TypeId} {base base' : Nat} {w : World} {v : Value} {xs : List Int} (h : Own k e base w v xs) (hb : base' ≤ base) : Own k e base' w v xs := by
  obtain ⟨h1, h2⟩ := h
  refine ⟨h1, ?_⟩
  rcases h2 with h2 | ⟨g, cap, cur, hv, hg, r⟩
  · exact .inl h2
  · exact .inr ⟨g, cap, cur, hv, Nat.le_trans hb hg, r⟩
theorem Own.appended {k : IntKind} {e : TypeId} {base n : Nat} {w1 : World} {v : Value} {f : Nat → Int} (h : w1.ownsRow base e 1 v (n + 1) ((mk n f).map (Value.int k) ++ [Value.int k (f n)])) : Own k e base w1 v (mk (n + 1) f) := by
  unfold Own
  rw [mk_length, mk_succ, List.map_append]
  exact h
theorem kept_grown {w0 w w1 : World} {base n s : Nat} {e : TypeId} {v : Value} {xs : List Value} (hk : Kept w0 w) (h : w.ownsRow base e s v n xs) (hb : w0.heap.size ≤ base) (hg : w.grownBy w1 v.ownBlock) : Kept w0 w1 :=
  hk.grown hg hk.size fun k hk' => Nat.le_trans hb (World.ownsRow.lt h k hk').1
theorem blk_rd {k : IntKind} {w : World} {g : Nat} {t : TypeId} {xs : List Int} (h : w.heap[g]? = some (.cells (xs.map (Value.int k)).toArray t (0, 0))) (hl : xs.length ≤ 9223372036854775807) : Rd k w (some ⟨g, 0, none⟩) xs := by
  refine ⟨hl, fun _ => ⟨_, rfl, fun j hj => ?_⟩⟩
  have := blk_cell h j
  have e : (⟨g, 0, none⟩ : Addr).add j = ⟨g, j, none⟩ := by unfold Addr.add; split <;> simp_all
  rw [e, this, List.getElem?_toArray, List.getElem?_map, List.getElem?_eq_getElem hj, Option.map_some, nth_lt hj]
theorem blk_new1 (w : World) (o o' : Obj) : ((w.alloc o).alloc o').heap[w.heap.size + 1]? = some o' := by
  have := blk_new (w.alloc o) o'
  rwa [World.size_alloc] at this
theorem blk_new2 (w : World) (o o' o'' : Obj) : (((w.alloc o).alloc o').alloc o'').heap[w.heap.size + 1 + 1]? = some o'' := by
  have := blk_new ((w.alloc o).alloc o') o''
  rwa [World.size_alloc, World.size_alloc] at this
end Go.Proofs.YtdejablhpljdfaaGreat
namespace Go.Proofs.YtdejablhpljdfaaGreat
open Go.RowKit BG
attribute [local go_sem ↓] Go.wp_at_zero Go.wp_at_succ
set_option linter.unusedVariables false
structure Cl where
  (a b c d : Int)
deriving DecidableEq
abbrev Cl.v (x : Cl) : Value := .agg #[.int .u64 x.a, .int .u64 x.b, .int .u64 x.c, .int .u64 x.d]
abbrev Cl.cells (x : Cl) : Obj := .cells #[.int .u64 x.a, .int .u64 x.b, .int .u64 x.c, .int .u64 x.d] 110
def u64b (z : Int) : Prop := 0 ≤ z ∧ z ≤ 18446744073709551615
def Cl.ok (x : Cl) : Prop := u64b x.a ∧ u64b x.b ∧ u64b x.c ∧ u64b x.d
def bitv (z : Int) (k : Nat) : Bool := z / 2 ^ k % 2 == 1
def Cl.wd (x : Cl) (i : Nat) : Int := if i = 0 then x.a else if i = 1 then x.b else if i = 2 then x.c else x.d
def hasv (x : Cl) (b : Nat) : Bool := bitv (x.wd (b / 64)) (b % 64)
theorem cl_and_one {z : Int} (h : u64b z) : bits .and .u64 z 1 = z % 2 := by
  rw [u64_and z 1 h.1 (by have := h.2; omega) (by decide) (by decide), show (1 : Int).toNat = 1 from rfl, Nat.and_one_is_mod]
  have := h.1
  omega
theorem shr_bd {z : Int} (h : u64b z) (k : Nat) : u64b (z / 2 ^ k) := by
  have hp : (0 : Int) < 2 ^ k := Int.pow_pos (by decide)
  exact ⟨Int.ediv_nonneg h.1 (by omega), Int.le_trans (Int.ediv_le_self _ h.1) h.2⟩
def orb (z : Int) (k : Nat) : Int := ((z.toNat ||| 2 ^ k : Nat) : Int)
theorem orb_bd {z : Int} (h : u64b z) {k : Nat} (hk : k < 64) : u64b (orb z k) := by
  have h1 : z.toNat < 2 ^ 64 := by have := h.1; have := h.2; omega
  have h2 : 2 ^ k < 2 ^ 64 := Nat.pow_lt_pow_right (by decide) hk
  have := Nat.or_lt_two_pow h1 h2
  unfold orb
  exact ⟨Int.natCast_nonneg _, by omega⟩
theorem bits_or {z : Int} (h : u64b z) {k : Nat} (hk : k < 64) : bits .or .u64 z (IntKind.u64.wrap (2 ^ k)) = orb z k := by
  have h2 : 2 ^ k < 2 ^ 64 := Nat.pow_lt_pow_right (by decide) hk
  have e : ((2 : Int) ^ k) = ((2 ^ k : Nat) : Int) := by rw [Int.natCast_pow]; rfl
  unfold orb
  rw [e]
  generalize 2 ^ k = P at *
  have hw : IntKind.u64.wrap (P : Int) = (P : Int) := by rw [IntKind.wrap_u64]; omega
  rw [hw, u64_or z _ h.1 (by have := h.2; omega) (by omega) (by omega)]
  rw [Int.toNat_natCast]
def Cl.setw (x : Cl) (i : Nat) (z : Int) : Cl := if i = 0 then ⟨z, x.b, x.c, x.d⟩ else if i = 1 then ⟨x.a, z, x.c, x.d⟩ else if i = 2 then ⟨x.a, x.b, z, x.d⟩ else ⟨x.a, x.b, x.c, z⟩
def withv (x : Cl) (b : Nat) : Cl := x.setw (b / 64) (orb (x.wd (b / 64)) (b % 64))
def zerov : Cl := ⟨0, 0, 0, 0⟩
theorem bits_not {z : Int} (h : u64b z) : bits .xor .u64 18446744073709551615 z = 18446744073709551615 - z := by
  rw [u64_xor _ z (by decide) (by decide) h.1 (by have := h.2; omega)]
  have h1 : z.toNat < 2 ^ 64 := by have := h.1; have := h.2; omega
  rw [show (18446744073709551615 : Int).toNat = 2 ^ 64 - 1 from rfl, Nat.xor_comm, ← Nat.xor_comm]
  have : (2 ^ 64 - 1) ^^^ z.toNat = 2 ^ 64 - 1 - z.toNat := by
    have e := BitVec.toNat_not (x := BitVec.ofNat 64 z.toNat)
    rw [BitVec.not_def, BitVec.toNat_xor] at e
    simp only [BitVec.toNat_allOnes, BitVec.toNat_ofNat, Nat.mod_eq_of_lt h1] at e
    rw [Nat.xor_comm] at e
    rw [Nat.xor_comm]
    exact e
  rw [this]
  have := h.1
  omega
def notv (x : Cl) : Cl := ⟨18446744073709551615 - x.a, 18446744073709551615 - x.b, 18446744073709551615 - x.c, 18446744073709551615 - x.d⟩
def fullv : Cl := ⟨18446744073709551615, 18446744073709551615, 18446744073709551615, 18446744073709551615⟩
theorem zerov_ok : zerov.ok := by unfold Cl.ok u64b zerov; decide
theorem wd_ok {x : Cl} (h : x.ok) (i : Nat) : u64b (x.wd i) := by
  unfold Cl.wd
  obtain ⟨h0, h1, h2, h3⟩ := h
  split
  · exact h0
  · split
    · exact h1
    · split
      · exact h2
      · exact h3
theorem setw_ok {x : Cl} (h : x.ok) (i : Nat) {z : Int} (hz : u64b z) : (x.setw i z).ok := by
  unfold Cl.setw
  obtain ⟨h0, h1, h2, h3⟩ := h
  split
  · exact ⟨hz, h1, h2, h3⟩
  · split
    · exact ⟨h0, hz, h2, h3⟩
    · split
      · exact ⟨h0, h1, hz, h3⟩
      · exact ⟨h0, h1, h2, hz⟩
theorem withv_ok {x : Cl} (h : x.ok) (b : Nat) : (withv x b).ok := setw_ok h _ (orb_bd (wd_ok h _) (by omega))
theorem cl_cells {w : World} {g : Nat} {x : Cl} (h : w.heap[g]? = some x.cells) : w.cell? ⟨g, 0, none⟩ = some (.int .u64 x.a) ∧ w.cell? ⟨g, 1, none⟩ = some (.int .u64 x.b) ∧ w.cell? ⟨g, 2, none⟩ = some (.int .u64 x.c) ∧ w.cell? ⟨g, 3, none⟩ = some (.int .u64 x.d) := ⟨blk_cell h 0, blk_cell h 1, blk_cell h 2, blk_cell h 3⟩
set_option maxHeartbeats 2000000 in
theorem has_q0 (x : Cl) (hx : x.ok) (b : Nat) (hb : b < 256) (hq : b / 64 = 0) (w : World) : Calls Tryz.prog 93 #[x.v, .int .u8 (b : Nat)] w (Ret (.bool (hasv x b)) w) := by
  obtain ⟨z0, z1, z2, z3⟩ := x
  obtain ⟨h0, h1, h2, h3⟩ := hx
  have k0 := fun k => cl_and_one (shr_bd h0 k)
  obtain ⟨r, hr⟩ : ∃ r, r = b % 64 := ⟨_, rfl⟩
  obtain ⟨B, hB⟩ : ∃ B : Int, B = b := ⟨_, rfl⟩
  have hm : B % 64 = (r : Int) := by omega
  have hd : B / 64 = 0 := by omega
  have hr64 : r < 64 := by omega
  have hB0 : 0 ≤ B := by omega
  have c0 : (w.alloc (.cells #[.int .u64 z0, .int .u64 z1, .int .u64 z2, .int .u64 z3] 110)).cell? ⟨w.heap.size, 0, none⟩ = some (.int .u64 z0) := blk_cell (blk_new w (.cells #[.int .u64 z0, .int .u64 z1, .int .u64 z2, .int .u64 z3] 110)) 0
  have ka := kept_alloc (kept_refl w) (.cells #[.int .u64 z0, .int .u64 z1, .int .u64 z2, .int .u64 z3] 110)
  unfold hasv
  rw [hq, ← hr, ← hB]
  clear hB hr hq hb
  go_enter Tryz.func93, Tryz.ntmps93
  go_wp2_with fail
  go_ret
  exact ⟨rfl, ka⟩
set_option maxHeartbeats 2000000 in
theorem has_q1 (x : Cl) (hx : x.ok) (b : Nat) (hb : b < 256) (hq : b / 64 = 1) (w : World) : Calls Tryz.prog 93 #[x.v, .int .u8 (b : Nat)] w (Ret (.bool (hasv x b)) w) := by
  obtain ⟨z0, z1, z2, z3⟩ := x
  obtain ⟨h0, h1, h2, h3⟩ := hx
  have k0 := fun k => cl_and_one (shr_bd h1 k)
  obtain ⟨r, hr⟩ : ∃ r, r = b % 64 := ⟨_, rfl⟩
  obtain ⟨B, hB⟩ : ∃ B : Int, B = b := ⟨_, rfl⟩
  have hm : B % 64 = (r : Int) := by omega
  have hd : B / 64 = 1 := by omega
  have hr64 : r < 64 := by omega
  have hB0 : 0 ≤ B := by omega
  have c0 : (w.alloc (.cells #[.int .u64 z0, .int .u64 z1, .int .u64 z2, .int .u64 z3] 110)).cell? ⟨w.heap.size, 1, none⟩ = some (.int .u64 z1) := blk_cell (blk_new w (.cells #[.int .u64 z0, .int .u64 z1, .int .u64 z2, .int .u64 z3] 110)) 1
  have ka := kept_alloc (kept_refl w) (.cells #[.int .u64 z0, .int .u64 z1, .int .u64 z2, .int .u64 z3] 110)
  unfold hasv
  rw [hq, ← hr, ← hB]
  clear hB hr hq hb
  go_enter Tryz.func93, Tryz.ntmps93
  go_wp2_with fail
  go_ret
  exact ⟨rfl, ka⟩
set_option maxHeartbeats 2000000 in
theorem has_q2 (x : Cl) (hx : x.ok) (b : Nat) (hb : b < 256) (hq : b / 64 = 2) (w : World) : Calls Tryz.prog 93 #[x.v, .int .u8 (b : Nat)] w (Ret (.bool (hasv x b)) w) := by
  obtain ⟨z0, z1, z2, z3⟩ := x
  obtain ⟨h0, h1, h2, h3⟩ := hx
  have k0 := fun k => cl_and_one (shr_bd h2 k)
  obtain ⟨r, hr⟩ : ∃ r, r = b % 64 := ⟨_, rfl⟩
  obtain ⟨B, hB⟩ : ∃ B : Int, B = b := ⟨_, rfl⟩
  have hm : B % 64 = (r : Int) := by omega
  have hd : B / 64 = 2 := by omega
  have hr64 : r < 64 := by omega
  have hB0 : 0 ≤ B := by omega
  have c0 : (w.alloc (.cells #[.int .u64 z0, .int .u64 z1, .int .u64 z2, .int .u64 z3] 110)).cell? ⟨w.heap.size, 2, none⟩ = some (.int .u64 z2) := blk_cell (blk_new w (.cells #[.int .u64 z0, .int .u64 z1, .int .u64 z2, .int .u64 z3] 110)) 2
  have ka := kept_alloc (kept_refl w) (.cells #[.int .u64 z0, .int .u64 z1, .int .u64 z2, .int .u64 z3] 110)
  unfold hasv
  rw [hq, ← hr, ← hB]
  clear hB hr hq hb
  go_enter Tryz.func93, Tryz.ntmps93
  go_wp2_with fail
  go_ret
  exact ⟨rfl, ka⟩
set_option maxHeartbeats 2000000 in
theorem has_q3 (x : Cl) (hx : x.ok) (b : Nat) (hb : b < 256) (hq : b / 64 = 3) (w : World) : Calls Tryz.prog 93 #[x.v, .int .u8 (b : Nat)] w (Ret (.bool (hasv x b)) w) := by
  obtain ⟨z0, z1, z2, z3⟩ := x
  obtain ⟨h0, h1, h2, h3⟩ := hx
  have k0 := fun k => cl_and_one (shr_bd h3 k)
  obtain ⟨r, hr⟩ : ∃ r, r = b % 64 := ⟨_, rfl⟩
  obtain ⟨B, hB⟩ : ∃ B : Int, B = b := ⟨_, rfl⟩
  have hm : B % 64 = (r : Int) := by omega
  have hd : B / 64 = 3 := by omega
  have hr64 : r < 64 := by omega
  have hB0 : 0 ≤ B := by omega
  have c0 : (w.alloc (.cells #[.int .u64 z0, .int .u64 z1, .int .u64 z2, .int .u64 z3] 110)).cell? ⟨w.heap.size, 3, none⟩ = some (.int .u64 z3) := blk_cell (blk_new w (.cells #[.int .u64 z0, .int .u64 z1, .int .u64 z2, .int .u64 z3] 110)) 3
  have ka := kept_alloc (kept_refl w) (.cells #[.int .u64 z0, .int .u64 z1, .int .u64 z2, .int .u64 z3] 110)
  unfold hasv
  rw [hq, ← hr, ← hB]
  clear hB hr hq hb
  go_enter Tryz.func93, Tryz.ntmps93
  go_wp2_with fail
  go_ret
  exact ⟨rfl, ka⟩
theorem has_c (x : Cl) (hx : x.ok) (b : Nat) (hb : b < 256) (w : World) : Calls Tryz.prog 93 #[x.v, .int .u8 (b : Nat)] w (Ret (.bool (hasv x b)) w) := by
  have hq : b / 64 = 0 ∨ b / 64 = 1 ∨ b / 64 = 2 ∨ b / 64 = 3 := by omega
  rcases hq with h | h | h | h
  · exact has_q0 x hx b hb h w
  · exact has_q1 x hx b hb h w
  · exact has_q2 x hx b hb h w
  · exact has_q3 x hx b hb h w
end Go.Proofs.YtdejablhpljdfaaGreat
