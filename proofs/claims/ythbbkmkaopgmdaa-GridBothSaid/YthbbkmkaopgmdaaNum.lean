/-
  Plain number theory, without Go: the three primes are primes; Fermat's theorem; what a power, an inverse and a root of 1 are modulo a prime.
-/
set_option linter.unusedVariables false
namespace BG

/-! ### Primes -/
/-- A prime number. -/
def IsP (p : Nat) : Prop := 2 ≤ p ∧ ∀ d, d ∣ p → d = 1 ∨ d = p

/-- No number from lo on, 2^n of them, divides p. -/
def noDiv (p : Nat) : Nat → Nat → Bool
  | 0, lo => p % lo != 0
  | n + 1, lo => noDiv p n lo && noDiv p n (lo + 2 ^ n)

theorem noDiv_spec (p : Nat) : ∀ n lo, noDiv p n lo = true → ∀ d, lo ≤ d → d < lo + 2 ^ n → p % d ≠ 0 := by
  intro n
  induction n with
  | zero =>
    intro lo h d h1 h2
    have : d = lo := by simp at h2; omega
    subst this
    simpa [noDiv] using h
  | succ n ih =>
    intro lo h d h1 h2
    rw [noDiv, Bool.and_eq_true] at h
    rw [Nat.pow_succ] at h2
    by_cases hd : d < lo + 2 ^ n
    · exact ih lo h.1 d h1 hd
    · exact ih (lo + 2 ^ n) h.2 d (by omega) (by omega)

theorem isP_of_noDiv (p n : Nat) (hp : 2 ≤ p) (h : noDiv p n 2 = true) (hn : p < (2 + 2 ^ n) * (2 + 2 ^ n)) : IsP p := by
  refine ⟨hp, fun d hd => ?_⟩
  obtain ⟨e, he⟩ := hd
  by_cases h1 : d = 1
  · exact .inl h1
  by_cases h2 : e = 1
  · right; rw [he, h2, Nat.mul_one]
  have hd0 : d ≠ 0 := by intro h0; rw [h0, Nat.zero_mul] at he; omega
  have he0 : e ≠ 0 := by intro h0; rw [h0, Nat.mul_zero] at he; omega
  exfalso
  have S := noDiv_spec p n 2 h
  by_cases hs : d < 2 + 2 ^ n
  · exact S d (by omega) hs (by rw [he]; exact Nat.mul_mod_right d e)
  by_cases hs' : e < 2 + 2 ^ n
  · exact S e (by omega) hs' (by rw [he, Nat.mul_comm]; exact Nat.mul_mod_right e d)
  have := Nat.mul_le_mul (Nat.le_of_not_lt hs) (Nat.le_of_not_lt hs')
  omega

theorem prime0 : IsP 998244353 := isP_of_noDiv _ 15 (by decide) (by decide +kernel) (by decide)
theorem prime1 : IsP 167772161 := isP_of_noDiv _ 14 (by decide) (by decide +kernel) (by decide)
theorem prime2 : IsP 469762049 := isP_of_noDiv _ 15 (by decide) (by decide +kernel) (by decide)

theorem IsP.coprime {p : Nat} (hp : IsP p) {a : Nat} (ha : ¬ p ∣ a) : Nat.Coprime p a := by
  rcases hp.2 _ (Nat.gcd_dvd_left p a) with h | h
  · exact h
  · exact absurd (h ▸ Nat.gcd_dvd_right p a) ha
theorem IsP.euclid {p : Nat} (hp : IsP p) {a b : Nat} (h : p ∣ a * b) : p ∣ a ∨ p ∣ b := by
  by_cases ha : p ∣ a
  · exact .inl ha
  · exact .inr ((hp.coprime ha).dvd_of_dvd_mul_left h)

/-! ### Fermat -/
def prodL : List Nat → Nat
  | [] => 1
  | x :: l => x * prodL l
theorem prodL_perm {l l' : List Nat} (h : l.Perm l') : prodL l = prodL l' := by
  induction h with
  | nil => rfl
  | cons x _ ih => simp [prodL, ih]
  | swap x y l => simp only [prodL]; rw [← Nat.mul_assoc, ← Nat.mul_assoc, Nat.mul_comm y x]
  | trans _ _ ih1 ih2 => exact ih1.trans ih2
theorem perm_of_nodup : ∀ (l l' : List Nat), l.Nodup → (∀ x ∈ l, x ∈ l') → l'.length ≤ l.length → l.Perm l' := by
  intro l
  induction l with
  | nil => intro l' _ _ h; have : l' = [] := List.eq_nil_of_length_eq_zero (by simpa using h); rw [this]
  | cons a l ih =>
    intro l' hn hs hl
    rw [List.nodup_cons] at hn
    have ha : a ∈ l' := hs a (List.mem_cons_self)
    have hp := List.perm_cons_erase ha
    have hlen := List.length_erase_of_mem ha
    have hpos : 0 < l'.length := List.length_pos_of_mem ha
    refine (List.Perm.cons a (ih (l'.erase a) hn.2 ?_ ?_)).trans hp.symm
    · intro x hx
      have hne : x ≠ a := fun e => hn.1 (e ▸ hx)
      exact (List.mem_erase_of_ne hne).2 (hs x (List.mem_cons_of_mem _ hx))
    · simp only [List.length_cons] at hl; omega
theorem prodL_map_mod (a p : Nat) : ∀ l : List Nat, prodL (l.map fun x => a * x % p) % p = a ^ l.length * prodL l % p := by
  intro l
  induction l with
  | nil => simp [prodL]
  | cons x l ih =>
    simp only [List.map_cons, prodL, List.length_cons]
    rw [Nat.mul_mod, Nat.mod_mod, ih, ← Nat.mul_mod]
    congr 1
    rw [Nat.pow_succ, Nat.mul_assoc, Nat.mul_assoc, Nat.mul_left_comm x, Nat.mul_left_comm a]
theorem prodL_prime {p : Nat} (hp : IsP p) : ∀ l : List Nat, (∀ x ∈ l, ¬ p ∣ x) → ¬ p ∣ prodL l := by
  intro l
  induction l with
  | nil => intro _ h; have := Nat.le_of_dvd (by decide) h; have := hp.1; simp [prodL] at *; omega
  | cons x l ih =>
    intro h hd
    rcases hp.euclid hd with h1 | h1
    · exact h x List.mem_cons_self h1
    · exact ih (fun y hy => h y (List.mem_cons_of_mem _ hy)) h1
theorem sub_dvd_of_mod_eq {p x y : Nat} (h : x % p = y % p) (hxy : y ≤ x) : p ∣ x - y := by
  have h1 := Nat.div_add_mod x p
  have h2 := Nat.div_add_mod y p
  refine ⟨x / p - y / p, ?_⟩
  rw [Nat.mul_sub]
  omega
theorem fermat {p : Nat} (hp : IsP p) {a : Nat} (ha : ¬ p ∣ a) : a ^ (p - 1) % p = 1 := by
  have h2 := hp.1
  obtain ⟨l, hl⟩ : ∃ l : List Nat, l = (List.range (p - 1)).map (· + 1) := ⟨_, rfl⟩
  have hmem : ∀ x, x ∈ l ↔ 1 ≤ x ∧ x < p := by
    intro x
    rw [hl, List.mem_map]
    constructor
    · rintro ⟨y, hy, rfl⟩
      rw [List.mem_range] at hy
      omega
    · rintro ⟨h1, h2⟩
      exact ⟨x - 1, List.mem_range.2 (by omega), by omega⟩
  have hlen : l.length = p - 1 := by rw [hl]; simp
  have hnd : l.Nodup := by
    rw [hl]
    exact List.Pairwise.map _ (fun a b h => by omega) (List.nodup_range (n := p - 1))
  have hnot : ∀ x ∈ l, ¬ p ∣ x := by
    intro x hx hd
    have := (hmem x).1 hx
    have := Nat.le_of_dvd (by omega) hd
    omega
  have hinj : ∀ x y, x < p → y < p → a * x % p = a * y % p → x ≤ y → x = y := by
    intro x y hx hy he hle
    have hd : p ∣ a * y - a * x := sub_dvd_of_mod_eq he.symm (Nat.mul_le_mul_left a hle)
    rw [← Nat.mul_sub] at hd
    rcases hp.euclid hd with h | h
    · exact absurd h ha
    · have := Nat.eq_zero_of_dvd_of_lt h (by omega)
      omega
  have hperm : (l.map fun x => a * x % p).Perm l := by
    refine perm_of_nodup _ _ ?_ ?_ ?_
    · rw [List.Nodup, List.pairwise_map]
      refine List.Pairwise.imp_of_mem ?_ hnd
      intro x y hx hy hne he
      have h1 := (hmem x).1 hx
      have h2 := (hmem y).1 hy
      rcases Nat.le_total x y with h | h
      · exact hne (hinj x y h1.2 h2.2 he h)
      · exact hne (hinj y x h2.2 h1.2 he.symm h).symm
    · intro x hx
      rw [List.mem_map] at hx
      obtain ⟨y, hy, rfl⟩ := hx
      rw [hmem]
      have hlt := Nat.mod_lt (a * y) (show p > 0 by omega)
      refine ⟨?_, hlt⟩
      rcases Nat.eq_zero_or_pos (a * y % p) with h0 | h0
      · exfalso
        rcases hp.euclid (Nat.dvd_of_mod_eq_zero h0) with h | h
        · exact ha h
        · exact hnot y hy h
      · exact h0
    · simp
  have e := prodL_map_mod a p l
  rw [prodL_perm hperm, hlen] at e
  have hpos : 0 < prodL l := by
    rcases Nat.eq_zero_or_pos (prodL l) with h0 | h0
    · exact absurd (h0 ▸ Nat.dvd_zero p) (prodL_prime hp l hnot)
    · exact h0
  have hapos : 0 < a := by
    rcases Nat.eq_zero_or_pos a with h0 | h0
    · exact absurd (h0 ▸ Nat.dvd_zero p) ha
    · exact h0
  have hpw : 1 ≤ a ^ (p - 1) := Nat.pow_pos hapos
  have hd : p ∣ a ^ (p - 1) * prodL l - prodL l := sub_dvd_of_mod_eq e.symm (Nat.le_mul_of_pos_left _ hpw)
  have hd' : p ∣ (a ^ (p - 1) - 1) * prodL l := by rw [Nat.sub_mul, Nat.one_mul]; exact hd
  rcases hp.euclid hd' with h | h
  · obtain ⟨c, hc⟩ := h
    have : a ^ (p - 1) = 1 + p * c := by omega
    rw [this, Nat.add_mul_mod_self_left, Nat.mod_eq_of_lt (by omega)]
  · exact absurd h (prodL_prime hp l hnot)
end BG
