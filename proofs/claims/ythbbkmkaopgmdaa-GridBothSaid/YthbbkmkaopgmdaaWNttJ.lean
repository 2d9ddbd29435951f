/-
  Layer 2 (ntt): logs, what is amiss, and the bits the other way round.
-/
import Derived.Test.YthbbkmkaopgmdaaWRes
import Derived.Test.YthbbkmkaopgmdaaSl
import Derived.Test.YthbbkmkaopgmdaaDft
import Derived.Laws.BitsLemmas
import Derived.Test.YthbbkmkaopgmdaaTail
namespace Go.Proofs.Ythbbkmkaopgmdaa
open Go.RowKit BG
attribute [local go_sem ↓] Go.wp_at_zero Go.wp_at_succ
set_option linter.unusedVariables false

/-- Is a number a power of two, 2^12 at most? -/
def hasLog (n : Int) : Bool := (List.range 13).any fun l => n == ((2 ^ l : Nat) : Int)
/-- Its log. -/
def lgv (n : Int) : Nat := ((List.range 13).find? fun l => n == ((2 ^ l : Nat) : Int)).getD 0
theorem log_pow (l : Nat) (h : l ≤ 12) : hasLog ((2 ^ l : Nat) : Int) = true ∧ lgv ((2 ^ l : Nat) : Int) = l := by
  have : l = 0 ∨ l = 1 ∨ l = 2 ∨ l = 3 ∨ l = 4 ∨ l = 5 ∨ l = 6 ∨ l = 7 ∨ l = 8 ∨ l = 9 ∨ l = 10 ∨ l = 11 ∨ l = 12 := by omega
  rcases this with rfl | rfl | rfl | rfl | rfl | rfl | rfl | rfl | rfl | rfl | rfl | rfl | rfl <;> exact ⟨by decide, by decide⟩
theorem log_none {n : Int} (h : hasLog n = false) : (∀ l : Nat, l ≤ 12 → n ≠ ((2 ^ l : Nat) : Int)) ∧ lgv n = 0 := by
  have h1 : ∀ l : Nat, l < 13 → (n == ((2 ^ l : Nat) : Int)) = false := by
    intro l hl
    unfold hasLog at h
    rw [List.any_eq_false] at h
    have := h l (List.mem_range.2 hl)
    simpa using this
  refine ⟨fun l hl => by have := h1 l (by omega); simpa using this, ?_⟩
  unfold lgv
  rw [List.find?_eq_none.2 fun l hl => by rw [h1 l (List.mem_range.1 hl)]; decide]
  rfl
theorem log_some {n : Int} (h : hasLog n = true) : lgv n ≤ 12 ∧ n = ((2 ^ lgv n : Nat) : Int) := by
  unfold hasLog at h
  rw [List.any_eq_true] at h
  obtain ⟨l, hl, he⟩ := h
  have hl := List.mem_range.1 hl
  have e : n = ((2 ^ l : Nat) : Int) := by simpa using he
  have := (log_pow l (by omega)).2
  rw [← e] at this
  rw [this]
  exact ⟨by omega, e⟩
theorem shl_at (l : Nat) (h : l ≤ 12) : wrap64 ((2 : Int) ^ l) = ((2 ^ l : Nat) : Int) := by
  have : l = 0 ∨ l = 1 ∨ l = 2 ∨ l = 3 ∨ l = 4 ∨ l = 5 ∨ l = 6 ∨ l = 7 ∨ l = 8 ∨ l = 9 ∨ l = 10 ∨ l = 11 ∨ l = 12 := by omega
  rcases this with rfl | rfl | rfl | rfl | rfl | rfl | rfl | rfl | rfl | rfl | rfl | rfl | rfl <;> (unfold wrap64; decide)
abbrev Ltuple (n : Int) : Value := .tuple #[.int .i64 ((lgv n : Nat) : Int), .bool (hasLog n)]
theorem log_c (n : Int) (w : World) : Calls Try.prog 29 #[.int .i64 n] w (Ret (Ltuple n) w) := by
  unfold Ltuple
  go_enter Try.func29, Try.ntmps29
  go_wp2_with fail
  go_loopw [5] (fun i wr => ∃ l : Nat, l ≤ 13 ∧ i = .int .i64 l ∧ Kept w wr ∧ Hid (∀ q : Nat, q < l → n ≠ ((2 ^ q : Nat) : Int))) (fun i _ => 13 - (intOf i).toNat)
  case atStart => exact ⟨0, Nat.zero_le _, rfl, kept_refl _, fun q hq => absurd hq (Nat.not_lt_zero q)⟩
  case round =>
    obtain ⟨l, hl, rfl, hk, HQ⟩ := hrel
    by_cases hlt : l < 13
    · have hs := shl_at l (by omega)
      have hp := log_pow l (by omega)
      generalize hN : ((2 ^ l : Nat) : Int) = N at *
      have HN := Lib.hid hN
      clear hN
      by_cases he : n = N
      · subst he
        rw [hp.1, hp.2]
        clear hp
        go_wp2_with fail
        exact bodyPost_ret (v := .tuple #[.int .i64 l, .bool true]) (by simp [results, Try.results29, go_sem]) rfl ⟨rfl, hk⟩
      · clear hp
        have HE := Lib.hid he
        have hb : ¬ n = N := he
        clear he
        go_wp2_with fail
        exact ⟨⟨l + 1, by omega, by go_num, hk, fun q hq => by
          rcases Nat.lt_or_ge q l with h | h
          · exact HQ q h
          · obtain rfl : q = l := by omega
            rw [HN.out]; exact HE.out⟩, by simp [intOf]; omega⟩
    · obtain rfl : l = 13 := by omega
      have hno : hasLog n = false := by
        cases h : hasLog n
        · rfl
        · obtain ⟨h1, h2⟩ := log_some h
          exact absurd h2 (HQ _ (by omega))
      have HNO := Lib.hid hno
      clear hno
      go_wp2_with fail
      exact bodyPost_ret (v := .tuple #[.int .i64 0, .bool false]) (by simp [results, Try.results29, go_sem]) rfl ⟨by rw [HNO.out, (log_none HNO.out).2]; rfl, hk⟩
theorem rlog_c (n : Int) (w : World) : Calls Try.prog 34 #[.int .i64 n] w (Ret (Ltuple n) w) := by
  unfold Ltuple
  go_enter Try.func34, Try.ntmps34
  go_wp2_with fail
  go_loopw [4, 5] (fun p i wr => ∃ l : Nat, l ≤ 13 ∧ i = .int .i64 l ∧ p = .int .i64 ((2 ^ l : Nat) : Int) ∧ Kept w wr ∧ Hid (∀ q : Nat, q < l → n ≠ ((2 ^ q : Nat) : Int))) (fun _ i _ => 13 - (intOf i).toNat)
  case atStart => exact ⟨0, Nat.zero_le _, rfl, by simp, kept_refl _, fun q hq => absurd hq (Nat.not_lt_zero q)⟩
  case round =>
    obtain ⟨l, hl, rfl, rfl, hk, HQ⟩ := hrel
    by_cases hlt : l < 13
    · have hp := log_pow l (by omega)
      have hpow : ((2 ^ (l + 1) : Nat) : Int) = 2 * ((2 ^ l : Nat) : Int) := by rw [Nat.pow_succ, Int.natCast_mul]; omega
      have hsm : 0 < ((2 ^ l : Nat) : Int) ∧ ((2 ^ l : Nat) : Int) ≤ 4096 := by
        have h1 := Nat.two_pow_pos l
        have h2 : 2 ^ l ≤ 2 ^ 12 := Nat.pow_le_pow_right (by decide) (by omega)
        omega
      generalize hN : ((2 ^ l : Nat) : Int) = N at *
      have HN := Lib.hid hN
      have HP := Lib.hid hpow
      clear hN hpow
      by_cases he : n = N
      · subst he
        rw [hp.1, hp.2]
        clear hp
        go_wp2_with fail
        exact bodyPost_ret (v := .tuple #[.int .i64 l, .bool true]) (by simp [results, Try.results34, go_sem]) rfl ⟨rfl, hk⟩
      · clear hp
        have HE := Lib.hid he
        have hb : ¬ N = n := fun h => he h.symm
        clear he
        go_wp2_with fail
        exact ⟨⟨l + 1, by omega, by go_num, by rw [HP.out], hk, fun q hq => by
          rcases Nat.lt_or_ge q l with h | h
          · exact HQ q h
          · obtain rfl : q = l := by omega
            rw [HN.out]; exact HE.out⟩, by simp [intOf]; omega⟩
    · obtain rfl : l = 13 := by omega
      have hno : hasLog n = false := by
        cases h : hasLog n
        · rfl
        · obtain ⟨h1, h2⟩ := log_some h
          exact absurd h2 (HQ _ (by omega))
      have HNO := Lib.hid hno
      clear hno
      go_wp2_with fail
      exact bodyPost_ret (v := .tuple #[.int .i64 0, .bool false]) (by simp [results, Try.results34, go_sem]) rfl ⟨by rw [HNO.out, (log_none HNO.out).2]; rfl, hk⟩
/-- What is amiss. -/
def amiss (k n : Int) : Int := if pr k = 0 then 20 else if hasLog n then 0 else 21
theorem check_c (k n : Int) (w : World) : Calls Try.prog 68 #[.int .i64 k, .int .i64 n] w (Ret (.int .i64 (amiss k n)) w) := by
  unfold amiss
  have P := prime_c k
  by_cases hp : pr k = 0
  · rw [if_pos hp]
    rw [hp] at P
    clear hp
    go_enter Try.func68, Try.ntmps68
    go_wp2_with fail
    refine (P _).mono ?_
    rintro e w1 ⟨rfl, hk1⟩
    go_wp2_with fail
    go_ret
    exact ⟨rfl, hk1⟩
  · rw [if_neg hp]
    have hb := (pr_range k).1
    generalize pr k = p at *
    have L := log_c n
    unfold Ltuple at L
    generalize hasLog n = b at *
    generalize lgv n = l at *
    cases b
    · simp only [Bool.false_eq_true, if_false]
      go_enter Try.func68, Try.ntmps68
      go_wp2_with fail
      refine (P _).mono ?_
      rintro e w1 ⟨rfl, hk1⟩
      go_wp2_with fail
      refine (L _).mono ?_
      rintro e w2 ⟨rfl, hk2⟩
      go_wp2_with fail
      go_ret
      exact ⟨rfl, kept_trans hk1 hk2⟩
    · simp only [if_true]
      go_enter Try.func68, Try.ntmps68
      go_wp2_with fail
      refine (P _).mono ?_
      rintro e w1 ⟨rfl, hk1⟩
      go_wp2_with fail
      refine (L _).mono ?_
      rintro e w2 ⟨rfl, hk2⟩
      go_wp2_with fail
      go_ret
      exact ⟨rfl, kept_trans hk1 hk2⟩
end Go.Proofs.Ythbbkmkaopgmdaa
/-
  Layer 2 (ntt): the document's sums, and the bits the other way round.
-/
namespace Go.Proofs.Ythbbkmkaopgmdaa
open Go.RowKit BG
attribute [local go_sem ↓] Go.wp_at_zero Go.wp_at_succ
set_option linter.unusedVariables false

def NN (xs : List Int) : Prop := ∀ j, 0 ≤ nth xs j
theorem nn_mk {n : Nat} {f : Nat → Int} (h : ∀ j, j < n → 0 ≤ f j) : NN (mk n f) := by
  intro j
  by_cases hj : j < n
  · rw [nth_mk hj]; exact h j hj
  · unfold nth; rw [List.getD_eq_getElem?_getD, List.getElem?_eq_none (by rw [mk_length]; omega)]; exact Int.le_refl 0
theorem info_u64n : (Try.prog.info? 59).map (fun i => (i.zero, i.size, i.bytes)) = some (some (.int .u64 0), 1, 8) := by kernel_rfl
theorem step_x (k S a p : Int) : addm k (of k S) (mulm k a (of k p)) = of k (S + a * p) := by
  unfold addm mulm
  rw [of_mul_r, of_add_l, of_add_r]
theorem step_f (k w : Int) (t j : Nat) : mulm k (of k (w ^ (t * j))) (of k (w ^ j)) = of k (w ^ ((t + 1) * j)) := by
  unfold mulm
  rw [of_mul_l, of_mul_r, ← Int.pow_add, Nat.add_mul, Nat.one_mul]
theorem step_s (k w : Int) (j : Nat) : mulm k (of k (w ^ j)) w = of k (w ^ (j + 1)) := by
  unfold mulm
  rw [of_mul_l, Int.pow_succ]
theorem and_one (a : Int) (h0 : 0 ≤ a) (h1 : a < 8192) : bits .and .i64 a 1 = a % 2 := by
  have := bits_mask .i64 62 (by decide) (fun n h0 h1 => by rw [IntKind.wrap_i64]; omega) 1 (by decide) a h0 (by omega)
  simpa using this
theorem or_bit (x y : Int) (h0 : 0 ≤ x) (h1 : x < 8192) (h2 : 0 ≤ y) (h3 : y < 2) : bits .or .i64 (x * 2) y = x * 2 + y := 
  bits_join .i64 62 (by decide) (fun n h0 h1 => by rw [IntKind.wrap_i64]; omega) 1 (x * 2) y (by omega) (by omega) (by omega) h2 (by omega) (by omega)
theorem order_c (i L : Nat) (hL : L ≤ 12) (hi : i < 2 ^ L) (w : World) : Calls Try.prog 77 #[.int .i64 i, .int .i64 L] w (Ret (.int .i64 ((rev L i : Nat) : Int)) w) := by
  have hpL : 2 ^ L ≤ 2 ^ 12 := Nat.pow_le_pow_right (by decide) hL
  have HI := Lib.hid hi
  clear hi
  go_enter Try.func77, Try.ntmps77
  go_wp2_with fail
  go_loopw [0, 5, 7] (fun a o c wr => ∃ t : Nat, t ≤ L ∧ c = .int .i64 t ∧ a = .int .i64 ((i / 2 ^ t : Nat) : Int) ∧ o = .int .i64 ((rev t (i % 2 ^ t) : Nat) : Int) ∧ Kept w wr) (fun _ _ c _ => L - (intOf c).toNat)
  case atStart => exact ⟨0, Nat.zero_le _, rfl, by simp, by simp [rev], kept_refl _⟩
  case round =>
    obtain ⟨t, ht, rfl, rfl, rfl, hk⟩ := hrel
    by_cases hlt : t < L
    · have h1 := rev_lt t (i % 2 ^ t)
      have h2 : 2 ^ t ≤ 2 ^ 12 := Nat.pow_le_pow_right (by decide) (by omega)
      have h3 : i / 2 ^ t ≤ i := Nat.div_le_self _ _
      have h4 : rev (t + 1) (i % 2 ^ (t + 1)) = 2 * rev t (i % 2 ^ t) + i / 2 ^ t % 2 := by
        rw [rev_top t _ (Nat.mod_lt _ (Nat.two_pow_pos _)), Nat.mod_mod_of_dvd _ ⟨2, Nat.pow_succ _ _⟩, Nat.pow_succ, Nat.mod_mul_right_div_self]
      have h5 : i / 2 ^ (t + 1) = i / 2 ^ t / 2 := by rw [Nat.pow_succ, Nat.div_div_eq_div_mul]
      have hia := HI.out
      generalize i / 2 ^ t = a at *
      generalize rev t (i % 2 ^ t) = o at *
      have ho : o < 4096 := by omega
      have haa : a < 4096 := by omega
      clear h1 h2 h3 hia hpL
      have H4 := Lib.hid h4
      have H5 := Lib.hid h5
      clear h4 h5
      go_wp2_with fail
      exact ⟨⟨t + 1, by omega, by go_num, by rw [H5.out, Int.natCast_ediv]; rfl, by rw [and_one _ (by omega) (by omega), or_bit _ _ (by omega) (by omega) (by omega) (by omega), H4.out]; congr 1; omega, hk⟩, by simp [intOf]; omega⟩
    · obtain rfl : t = L := by omega
      have e : i % 2 ^ t = i := Nat.mod_eq_of_lt HI.out
      rw [e]
      go_wp2_with fail
      go_ret
      exact ⟨rfl, hk⟩
end Go.Proofs.Ythbbkmkaopgmdaa
/-
  Layer 2 (ntt): one step over two halves.
-/
namespace Go.Proofs.Ythbbkmkaopgmdaa
open Go.RowKit BG
attribute [local go_sem ↓] Go.wp_at_zero Go.wp_at_succ
set_option linter.unusedVariables false

theorem mk_set {n : Nat} (f : Nat → Int) {j : Nat} (hj : j < n) (u : Int) : (mk n f).set j u = mk n fun p => if p = j then u else f p := by
  refine List.ext_getElem (by simp [mk]) fun i h1 h2 => ?_
  rw [List.getElem_set]
  simp only [mk, List.getElem_map, List.getElem_range]
  by_cases h : j = i
  · subst h; simp
  · rw [if_neg h, if_neg (fun e => h e.symm)]
theorem rowKept {base n size : Nat} {e : TypeId} {v : Value} {xs : List Value} {w w1 : World} (h : w.ownsRow base e size v n xs) (hk : Kept w w1) : w1.ownsRow base e size v n xs :=
  World.ownsRow.kept h (⟨hk.os, hk.tape, hk.output, hk.size, fun i hi _ => hk.block i hi⟩ : w.grownBy w1 none) (by cases v.ownBlock <;> simp)
/-- Two halves, the first t places done. -/
def flyTo (k w : Int) (lo hi : Nat) (F : Nat → Int) (t : Nat) (j : Nat) : Int :=
  if lo ≤ j ∧ j < lo + t then addm k (F j) (mulm k (F (j + (hi - lo))) (of k (w ^ (j - lo))))
  else if hi ≤ j ∧ j < hi + t then subm k (F (j - (hi - lo))) (mulm k (F j) (of k (w ^ (j - hi)))) else F j
theorem flyTo_zero (k w : Int) (lo hi : Nat) (F : Nat → Int) (j : Nat) : flyTo k w lo hi F 0 j = F j := by
  unfold flyTo; rw [if_neg (by omega), if_neg (by omega)]
theorem flyTo_at {k w : Int} {lo hi t : Nat} (F : Nat → Int) (ht : lo + t < hi) : flyTo k w lo hi F t (lo + t) = F (lo + t) ∧ flyTo k w lo hi F t (hi + t) = F (hi + t) := by
  unfold flyTo
  exact ⟨by rw [if_neg (by omega), if_neg (by omega)], by rw [if_neg (by omega), if_neg (by omega)]⟩
theorem flyTo_set {k w : Int} {lo hi n t : Nat} (F : Nat → Int) (ht : lo + t < hi) (hn : hi + t < n) :
    ((mk n (flyTo k w lo hi F t)).set (lo + t) (addm k (F (lo + t)) (mulm k (F (hi + t)) (of k (w ^ t))))).set (hi + t) (subm k (F (lo + t)) (mulm k (F (hi + t)) (of k (w ^ t)))) = mk n (flyTo k w lo hi F (t + 1)) := by
  rw [mk_set _ (by omega), mk_set _ hn]
  refine mk_congr fun j hj => ?_
  by_cases h1 : j = hi + t
  · rw [if_pos h1, h1]
    unfold flyTo
    rw [if_neg (by omega), if_pos (by omega), show hi + t - (hi - lo) = lo + t by omega, show hi + t - hi = t by omega]
  · rw [if_neg h1]
    by_cases h2 : j = lo + t
    · rw [if_pos h2, h2]
      unfold flyTo
      rw [if_pos (by omega), show lo + t + (hi - lo) = hi + t by omega, show lo + t - lo = t by omega]
    · rw [if_neg h2]
      unfold flyTo
      by_cases h3 : lo ≤ j ∧ j < lo + t
      · rw [if_pos h3, if_pos (by omega)]
      · rw [if_neg h3, if_neg (show ¬ (lo ≤ j ∧ j < lo + (t + 1)) by omega)]
        by_cases h4 : hi ≤ j ∧ j < hi + t
        · rw [if_pos h4, if_pos (by omega)]
        · rw [if_neg h4, if_neg (by omega)]
theorem fly_c (k w0 : Int) (h0 : 0 ≤ w0) (g n cap lo hi ca cb : Nat) (F : Nat → Int) (hF : ∀ j, 0 ≤ F j) (half : Nat) (HH : Hid (hi = lo + half)) (hn : hi + half ≤ n) (hmax : n ≤ 1000000000000) (base : Nat) (w : World) (hown : w.ownsRow base 59 1 (.slice (some ⟨g, 0, none⟩) n cap) n ((mk n F).map (Value.int .u64))) (hb : base ≤ w.heap.size) :
    Calls Try.prog 78 #[.int .i64 k, .slice (some ⟨g, lo, none⟩) half ca, .slice (some ⟨g, hi, none⟩) half cb, .int .u64 w0] w fun e w' => e = .returned (.tuple #[]) ∧ w'.ownsRow base 59 1 (.slice (some ⟨g, 0, none⟩) n cap) n ((mk n (flyTo k w0 lo hi F half)).map (Value.int .u64)) ∧ (∀ w1, Kept w1 w → w1.heap.size ≤ base → Kept w1 w') := by
  have O := of_c k 1 (by decide)
  have e0 : mk n F = mk n (flyTo k w0 lo hi F 0) := mk_congr fun j _ => (flyTo_zero _ _ _ _ _ _).symm
  rw [e0] at hown
  clear e0
  go_enter Try.func78, Try.ntmps78
  go_wp2_with fail
  refine (O _).mono ?_
  rintro e w1 ⟨rfl, hk1⟩
  have hown1 : w1.ownsRow base 59 1 (.slice (some ⟨g, 0, none⟩) n cap) n ((mk n (flyTo k w0 lo hi F 0)).map (Value.int .u64)) := rowKept hown hk1
  go_wp2_with fail
  go_loopw [8, 16] (fun f i wr => ∃ t : Nat, t ≤ half ∧ i = .int .i64 t ∧ f = .int .u64 (of k (w0 ^ t)) ∧ wr.ownsRow base 59 1 (.slice (some ⟨g, 0, none⟩) n cap) n ((mk n (flyTo k w0 lo hi F t)).map (Value.int .u64)) ∧ (∀ w2, Kept w2 w → w2.heap.size ≤ base → Kept w2 wr) ∧ base ≤ wr.heap.size) (fun _ i _ => half - (intOf i).toNat)
  case atStart => exact ⟨0, Nat.zero_le _, rfl, by rw [Int.pow_zero], hown1, fun w2 hk _ => kept_trans hk hk1, Nat.le_trans hb hk1.size⟩
  case round =>
    clear hown hown1 hk1 O
    obtain ⟨t, ht, rfl, rfl, hown, hk, hbw⟩ := hrel
    by_cases hlt : t < half
    · have c0 := World.ownsRow.cellAt hown (lo + t) (by have := HH.out; omega)
      have c1 := World.ownsRow.cellAt hown (hi + t) (by omega)
      have hlh : lo + t < hi := by have := HH.out; omega
      obtain ⟨f1, f2⟩ := flyTo_at (k := k) (w := w0) F hlh
      have ln : (mk n (flyTo k w0 lo hi F t)).length = n := mk_length _ _
      rw [List.getElem?_map, List.getElem?_eq_getElem (by have := HH.out; omega), Option.map_some, ← nth_lt (by have := HH.out; omega), nth_mk (by have := HH.out; omega), f1] at c0
      rw [List.getElem?_map, List.getElem?_eq_getElem (by omega), Option.map_some, ← nth_lt (by omega), nth_mk (by omega), f2] at c1
      have S := flyTo_set (k := k) (w := w0) (n := n) F hlh (by omega)
      have hf0 := of_nonneg k (w0 ^ t)
      have hx := hF (lo + t)
      have hy := hF (hi + t)
      have M1 := mul_c k (F (hi + t)) (of k (w0 ^ t)) hy hf0
      have hm0 := (mulm_bd k (F (hi + t)) (of k (w0 ^ t))).1
      have M2 := add_c k (F (lo + t)) (mulm k (F (hi + t)) (of k (w0 ^ t))) hx hm0
      have M3 := sub_c k (F (lo + t)) (mulm k (F (hi + t)) (of k (w0 ^ t))) hx hm0
      have e2 : mulm k (of k (w0 ^ t)) w0 = of k (w0 ^ (t + 1)) := by unfold mulm; rw [of_mul_l, Int.pow_succ]
      have M4 := mul_c k (of k (w0 ^ t)) w0 hf0 h0
      rw [e2] at M4
      have hPQ : lo + t ≠ hi + t := by have := HH.out; omega
      have hPn : lo + t < n := by have := HH.out; omega
      have hQn : hi + t < n := by omega
      generalize addm k (F (lo + t)) (mulm k (F (hi + t)) (of k (w0 ^ t))) = u at *
      generalize subm k (F (lo + t)) (mulm k (F (hi + t)) (of k (w0 ^ t))) = v at *
      generalize mulm k (F (hi + t)) (of k (w0 ^ t)) = y at *
      generalize F (lo + t) = x at *
      generalize F (hi + t) = z at *
      generalize of k (w0 ^ t) = f at *
      generalize hf' : of k (w0 ^ (t + 1)) = f' at *
      have HF := Lib.hid hf'
      have HS := Lib.hid S
      clear f1 f2 ln e2 hf' S
      go_wp2_with fail
      have ks_c0 := fun s => kw_cell s c0
      have ks_c1 := fun s => kw_cell s c1
      have M1' := M1
      refine wp_region_kept (by kernel_rfl) (by kernel_rfl) ?_
      repeat (first | go_big_quiet_skip | (go_big_quiet_want; go_big_quiet_op; first | go_big_quiet_on | (apply Exists.intro; refine ⟨fun s => ?_, ?_⟩; (first | (go_at_call 51; exact call_kept (M1 _))); go_big_quiet_on)))
      refine wpQuiet_nil ?_
      rintro w2 ⟨⟨_, hk2⟩, rfl⟩
      clear ks_c0 ks_c1 c0 c1
      go_wp2_with fail
      refine (M2 _).mono ?_
      rintro e w3 ⟨rfl, hk3⟩
      go_wp2_with fail
      refine (M3 _).mono ?_
      rintro e w4 ⟨rfl, hk4⟩
      have K := kept_trans hk2 (kept_trans hk3 hk4)
      have hownA : w4.ownsRow base 59 1 (.slice (some ⟨g, 0, none⟩) n cap) n ((mk n (flyTo k w0 lo hi F t)).map (Value.int .u64)) := rowKept hown K
      have hkA := fun w2 h2 h3 => kept_trans (hk w2 h2 h3) K
      have d0 := World.ownsRow.cellAt hownA (lo + t) (by omega)
      rw [List.getElem?_map, List.getElem?_eq_getElem (by rw [mk_length]; omega), Option.map_some] at d0
      have f0 := World.ownsRow.frozenAt hownA (lo + t)
      have S1 := World.ownsRow.stored hownA (lo + t) (.int .u64 u)
      have d1 := World.ownsRow.cellAt S1.1 (hi + t) (by omega)
      rw [List.getElem?_set_ne hPQ, List.getElem?_map, List.getElem?_eq_getElem (by rw [mk_length]; omega), Option.map_some] at d1
      have f1 := World.ownsRow.frozenAt S1.1 (hi + t)
      have S2 := World.ownsRow.stored S1.1 (hi + t) (.int .u64 v)
      rw [← List.map_set, ← List.map_set, HS.out] at S2
      generalize (mk n (flyTo k w0 lo hi F t))[lo + t]'(by rw [mk_length]; omega) = old at *
      generalize (mk n (flyTo k w0 lo hi F t))[hi + t]'(by rw [mk_length]; omega) = old2 at *
      have hkB := fun w2 h2 h3 => kept_grown (kept_grown (hkA w2 h2 h3) hownA h3 S1.2) S1.1 h3 S2.2
      clear hown hk hk2 hk3 hk4
      go_wp2_with fail
      refine (M4 _).mono ?_
      rintro e w5 ⟨rfl, hk5⟩
      go_wp2_with fail
      exact ⟨⟨t + 1, by omega, by go_num, by rw [HF.out], rowKept S2.1 hk5, fun w2 h2 h3 => kept_trans (hkB w2 h2 h3) hk5, Nat.le_trans (Nat.le_trans hbw K.size) (Nat.le_trans (by simp) hk5.size)⟩, by simp [intOf]; omega⟩
    · obtain rfl : t = half := by omega
      go_wp2_with fail
      exact bodyPost_end (v := .tuple #[]) (by simp [results, Try.results78, go_sem]) rfl ⟨rfl, hown, hk⟩
end Go.Proofs.Ythbbkmkaopgmdaa
/-
  Layer 2 (ntt): the transform.
-/
namespace Go.Proofs.Ythbbkmkaopgmdaa
open Go.RowKit BG
attribute [local go_sem ↓] Go.wp_at_zero Go.wp_at_succ
set_option linter.unusedVariables false

/-- The blocks up to 'at' have gone through the step. -/
def upTo (k : Int) (half : Nat) (w : Int) (F : Nat → Int) (at_ j : Nat) : Int := if j < at_ then stage k half w F j else F j
theorem upTo_nonneg {k w : Int} {half : Nat} {F : Nat → Int} (hF : ∀ j, 0 ≤ F j) (a j : Nat) : 0 ≤ upTo k half w F a j := by
  unfold upTo stage
  split
  · split <;> exact of_nonneg _ _
  · exact hF j
theorem upTo_zero (k : Int) (half : Nat) (w : Int) (F : Nat → Int) (n : Nat) : mk n (upTo k half w F 0) = mk n F := mk_congr fun j _ => by unfold upTo; rw [if_neg (by omega)]
theorem upTo_all (k : Int) (half : Nat) (w : Int) (F : Nat → Int) (n : Nat) : mk n (upTo k half w F n) = mk n (stage k half w F) := mk_congr fun j hj => by unfold upTo; rw [if_pos hj]
theorem mod_add_lt {a m r : Nat} (ha : a % m = 0) (hr : r < m) : (a + r) % m = r := by
  rw [Nat.add_mod, ha, Nat.zero_add, Nat.mod_mod, Nat.mod_eq_of_lt hr]
theorem upTo_step {k w : Int} {half a : Nat} (F : Nat → Int) (hh : 0 < half) (ha : a % (2 * half) = 0) (n : Nat) : mk n (flyTo k w a (a + half) (upTo k half w F a) half) = mk n (upTo k half w F (a + 2 * half)) := by
  refine mk_congr fun j _ => ?_
  unfold flyTo
  rw [show a + half - a = half by omega]
  by_cases h1 : a ≤ j ∧ j < a + half
  · rw [if_pos h1]
    have e1 : upTo k half w F a j = F j := by unfold upTo; rw [if_neg (by omega)]
    have e2 : upTo k half w F a (j + half) = F (j + half) := by unfold upTo; rw [if_neg (by omega)]
    have e3 : j % (2 * half) = j - a := by
      have := mod_add_lt ha (r := j - a) (by omega)
      rwa [show a + (j - a) = j by omega] at this
    rw [e1, e2]
    unfold upTo stage
    rw [if_pos (by omega), e3, if_pos (by omega)]
    unfold addm mulm
    rw [of_mul_r, of_add_r]
  · rw [if_neg h1]
    by_cases h2 : a + half ≤ j ∧ j < a + half + half
    · rw [if_pos h2]
      have e1 : upTo k half w F a j = F j := by unfold upTo; rw [if_neg (by omega)]
      have e2 : upTo k half w F a (j - half) = F (j - half) := by unfold upTo; rw [if_neg (by omega)]
      have e3 : j % (2 * half) = j - a := by
        have := mod_add_lt ha (r := j - a) (by omega)
        rwa [show a + (j - a) = j by omega] at this
      rw [e1, e2]
      unfold upTo stage
      rw [if_pos (by omega), e3, if_neg (by omega), show j - (a + half) = j - a - half by omega]
      unfold subm mulm
      rw [of_mul_r, of_sub_r]
    · rw [if_neg h2]
      unfold upTo
      by_cases h3 : j < a
      · rw [if_pos h3, if_pos (by omega)]
      · rw [if_neg h3, if_neg (by omega)]
/-- The numbers laid in the other order, the first q of them. -/
def laid (k : Int) (L : Nat) (xs : List Int) (q p : Nat) : Int := if rev L p < q then of k (nth xs (rev L p)) else 0
theorem laid_zero (k : Int) (L : Nat) (xs : List Int) (n : Nat) : mk n (laid k L xs 0) = mk n fun _ => 0 := mk_congr fun p _ => by unfold laid; rw [if_neg (by omega)]
theorem laid_set (k : Int) (L : Nat) (xs : List Int) {q : Nat} (hq : q < 2 ^ L) : (mk (2 ^ L) (laid k L xs q)).set (rev L q) (of k (nth xs q)) = mk (2 ^ L) (laid k L xs (q + 1)) := by
  rw [mk_set _ (rev_lt L q)]
  refine mk_congr fun p hp => ?_
  by_cases h : p = rev L q
  · rw [if_pos h, h]
    unfold laid
    rw [rev_rev L q hq, if_pos (by omega)]
  · rw [if_neg h]
    have hne : rev L p ≠ q := by
      intro e
      apply h
      rw [← e, rev_rev L p hp]
    unfold laid
    by_cases h2 : rev L p < q
    · rw [if_pos h2, if_pos (by omega)]
    · rw [if_neg h2, if_neg (by omega)]
theorem laid_all (k : Int) (L : Nat) (xs : List Int) : mk (2 ^ L) (laid k L xs (2 ^ L)) = mk (2 ^ L) fun p => of k (nth xs (rev L p)) := mk_congr fun p _ => by unfold laid; rw [if_pos (rev_lt L p)]
theorem mk_zero' (n : Nat) : (mk n fun _ => 0).map (Value.int .u64) = List.replicate n (Value.int .u64 0) := by
  unfold mk; rw [List.map_map]
  exact List.ext_getElem (by simp) fun i h1 h2 => by simp
theorem pow_split {L s : Nat} (hs : s < L) : 2 ^ L = 2 * 2 ^ s * 2 ^ (L - s - 1) := by
  rw [← Nat.pow_succ', ← Nat.pow_add]; congr 1; omega
set_option maxRecDepth 100000 in
set_option maxHeartbeats 4000000 in
theorem transform_c (k w0 : Int) (h0 : 0 ≤ w0) (L : Nat) (hL : L ≤ 12) (hw : RootOf k L w0) (A : Option Addr) (cap : Nat) (xs : List Int) (hu : NN xs) (hx : xs.length = 2 ^ L) (w : World) (hr : Rd .u64 w A xs) :
    Calls Try.prog 70 #[.int .i64 k, .slice A xs.length cap, .int .u64 w0] w fun e w' => ∃ v, e = .returned v ∧ Own .u64 59 w.heap.size w' v (mk xs.length (dft k xs.length (nth xs) w0)) ∧ Kept w w' := by
  obtain ⟨i1, hif1, hy0, hy1, hy2⟩ := info_parts info_u64n
  have hmax : 2 ^ L ≤ 2 ^ 12 := Nat.pow_le_pow_right (by decide) hL
  have LG := log_c ((2 ^ L : Nat) : Int)
  unfold Ltuple at LG
  rw [(log_pow L hL).1, (log_pow L hL).2] at LG
  have hord := fun q (hq : q < 2 ^ L) => (⟨rev_lt L q, laid_set k L xs hq⟩ : rev L q < 2 ^ L ∧ _)
  have hlz := laid_zero k L xs (2 ^ L)
  have hla := laid_all k L xs
  have hst := stands_start k L w0 (nth xs) (fun p => of k (nth xs (rev L p))) (fun b _ => rfl)
  have hend := fun F (h : Stands k L L w0 (nth xs) F) => stands_end h
  have hsp := fun s (hs : s < L) => pow_split hs
  have hlt2 : ∀ s, s ≤ L → (2 ^ s < 2 ^ L ↔ s < L) ∧ 2 ^ s ≤ 2 ^ L := fun s hs => ⟨Nat.pow_lt_pow_iff_right (by decide), Nat.pow_le_pow_right (by decide) hs⟩
  have hinj : ∀ q, q < 2 ^ L → _ := fun q hq => order_c q L hL hq
  rw [hx]
  have HW := Lib.hid hw
  generalize hN : 2 ^ L = N at *
  have HN := Lib.hid hN
  clear hN hw
  go_enter Try.func70, Try.ntmps70
  go_wp2_with fail
  refine (LG _).mono ?_
  rintro e w1 ⟨rfl, hk1⟩
  clear LG
  go_wp2_with (refine wpList_make_full _ rfl (.tmp 24) (.tmp 24) 68 rfl w.heap.size 59 i1 (.int .u64 0) 1 Try.underlying68 hif1 hy0 hy1 .i64 .i64 _ _ N rfl rfl (by simp) (by simp) ?b2 ?b3 ?b4 ?_)
  case b2 => rw [hy2]; omega
  case b3 => unfold maxLen; omega
  case b4 => exact hk1.size
  intro w4 hown4 hgrow
  have K4 : Kept w w4 := hk1.grown hgrow hk1.size (fun k h => by cases h)
  rw [toList_madeCells_one] at hown4
  have hown5 : w4.ownsRow w.heap.size 59 1 (.slice (some ⟨w1.heap.size, 0, none⟩) N N) N ((mk N (laid k L xs 0)).map (Value.int .u64)) := by
    rw [hlz, mk_zero']; exact hown4
  clear hown4 hgrow hlz hk1
  generalize w1.heap.size = g at *
  go_wp2_with fail
  go_loopw [28] (fun i wr => ∃ q : Nat, q ≤ N ∧ i = .int .i64 q ∧ wr.ownsRow w.heap.size 59 1 (.slice (some ⟨g, 0, none⟩) N N) N ((mk N (laid k L xs q)).map (Value.int .u64)) ∧ Kept w wr) (fun i _ => N - (intOf i).toNat)
  case atStart => exact ⟨0, Nat.zero_le _, rfl, hown5, K4⟩
  case round =>
    clear hown5 K4
    obtain ⟨q, hq, rfl, hown, hk⟩ := hrel
    by_cases hlt : q < N
    · obtain ⟨ad, rfl, c0⟩ := (hr.kept hk).at_ (j := q) (by omega)
      have O1 := hinj q hlt
      obtain ⟨r1, r2⟩ := hord q hlt
      have O2 := of_c k (nth xs q) (hu q)
      have R2 := Lib.hid r2
      clear r2 hla hst hend hsp hlt2 hinj hord
      generalize rev L q = r at *
      generalize nth xs q = x at *
      generalize of k x = y at *
      go_wp2_with fail
      refine (O1 _).mono ?_
      rintro e w2 ⟨rfl, hk2⟩
      go_wp2_with fail
      refine (O2 _).mono ?_
      rintro e w3 ⟨rfl, hk3⟩
      have K := kept_trans hk2 hk3
      have hownA : w3.ownsRow w.heap.size 59 1 (.slice (some ⟨g, 0, none⟩) N N) N ((mk N (laid k L xs q)).map (Value.int .u64)) := rowKept hown K
      have d0 := World.ownsRow.cellAt hownA r (by omega)
      rw [List.getElem?_map, List.getElem?_eq_getElem (by rw [mk_length]; omega), Option.map_some] at d0
      have f0 := World.ownsRow.frozenAt hownA r
      have S := World.ownsRow.stored hownA r (.int .u64 y)
      rw [← List.map_set, R2.out] at S
      generalize (mk N (laid k L xs q))[r]'(by rw [mk_length]; omega) = old at *
      have hkA := kept_trans hk K
      have ea : (⟨g, 0, none⟩ : Addr).add r = ⟨g, r, none⟩ := by unfold Addr.add; split <;> simp_all
      clear hown hk hk2 hk3
      go_wp2_with fail
      exact ⟨⟨q + 1, by omega, by go_num, S.1, kept_grown hkA hownA (Nat.le_refl _) S.2⟩, by simp [intOf]; omega⟩
    · obtain rfl : q = N := by omega
      rw [hla] at hown
      clear hinj hord hla
      go_wp2_with fail
      go_loopw [13] (fun hv wx => ∃ s : Nat, s ≤ L ∧ hv = .int .i64 ((2 ^ s : Nat) : Int) ∧ (∃ F : Nat → Int, Stands k L s w0 (nth xs) F ∧ (∀ j, 0 ≤ F j) ∧ wx.ownsRow w.heap.size 59 1 (.slice (some ⟨g, 0, none⟩) q q) q ((mk q F).map (Value.int .u64))) ∧ Kept w wx) (fun hv _ => q - (intOf hv).toNat)
      case atStart => exact ⟨0, Nat.zero_le _, by simp, ⟨_, hst, fun j => of_nonneg _ _, hown⟩, hk⟩
      case round =>
        clear hown hk hst
        obtain ⟨s, hs, rfl, ⟨F, hS, hF, hown⟩, hk⟩ := hrel
        obtain ⟨hl1, hl2⟩ := hlt2 s hs
        by_cases hsl : s < L
        · have hsplit := hsp s hsl
          have hHN := hl1.2 hsl
          have hpos : 0 < 2 ^ s := Nat.two_pow_pos s
          have hDpos : 0 < 2 ^ (L - s - 1) := Nat.two_pow_pos _
          have P := pow_c k w0 ((2 ^ (L - s - 1) : Nat) : Int) h0 (Int.natCast_nonneg _) (by have : 2 ^ (L - s - 1) ≤ 2 ^ 12 := Nat.pow_le_pow_right (by decide) (by omega); omega)
          have hv : Cong k (pw k w0 ((2 ^ (L - s - 1) : Nat) : Int)) (w0 ^ (2 ^ (L - s - 1))) := by unfold pw; rw [Int.toNat_natCast]; exact cong_of _ _
          have hv0 := (pw_bd k w0 ((2 ^ (L - s - 1) : Nat) : Int)).1
          have hstep := stands_step HW.out hsl hS _ hv
          have hnext : ((2 ^ (s + 1) : Nat) : Int) = ((2 ^ s : Nat) : Int) * 2 := by rw [Nat.pow_succ, Int.natCast_mul]; rfl
          have hlt3 := (hlt2 (s + 1) hsl).2
          generalize pw k w0 ((2 ^ (L - s - 1) : Nat) : Int) = v at *
          generalize 2 ^ (L - s - 1) = D at *
          rw [Nat.pow_succ] at hlt3
          generalize 2 ^ s = H at *
          have hdiv : ((q : Nat) : Int).tdiv (2 * (H : Int)) = (D : Int) := by
            rw [hsplit, Int.tdiv_eq_ediv_of_nonneg (Int.natCast_nonneg _), Int.natCast_mul, Int.natCast_mul]
            exact Int.mul_ediv_cancel_left _ (by omega)
          have hqm : q % (2 * H) = 0 := by rw [hsplit]; exact Nat.mul_mod_right _ _
          have hDq : D ≤ q := by rw [hsplit]; exact Nat.le_mul_of_pos_left _ (by omega)
          have HSP := Lib.hid hsplit
          have HST := Lib.hid hstep
          have HNX := Lib.hid hnext
          have HQM := Lib.hid hqm
          have HV := Lib.hid hv
          clear hsplit hl1 hsp hlt2 hend hv hstep hnext hqm
          have hn2 : ¬ (2 * (H : Int)) = 0 := by omega
          go_wp2_with fail
          refine (P _).mono ?_
          rintro e w5 ⟨rfl, hk5⟩
          replace hown := rowKept hown hk5
          replace hk := kept_trans hk hk5
          clear hk5 P hdiv
          rw [← upTo_zero k H v F q] at hown
          go_wp2_with fail
          go_loopw [15] (fun av wy => ∃ a : Nat, a ≤ q ∧ a % (2 * H) = 0 ∧ av = .int .i64 a ∧ wy.ownsRow w.heap.size 59 1 (.slice (some ⟨g, 0, none⟩) q q) q ((mk q (upTo k H v F a)).map (Value.int .u64)) ∧ Kept w wy) (fun av _ => q - (intOf av).toNat)
          case atStart => exact ⟨0, Nat.zero_le _, by simp, rfl, hown, hk⟩
          case round =>
            clear hown hk
            obtain ⟨a, ha, hm, rfl, hown, hk⟩ := hrel
            by_cases hlt : a < q
            · have hle : a + 2 * H ≤ q := by
                have hqm := HQM.out
                obtain ⟨c, rfl⟩ := Nat.dvd_of_mod_eq_zero hm
                obtain ⟨d, rfl⟩ := Nat.dvd_of_mod_eq_zero hqm
                have : c < d := Nat.lt_of_mul_lt_mul_left hlt
                have := Nat.mul_le_mul_left (2 * H) (show c + 1 ≤ d by omega)
                rw [Nat.mul_add, Nat.mul_one] at this
                exact this
              have hm2 : (a + 2 * H) % (2 * H) = 0 := by rw [Nat.add_mod_right]; exact hm
              have hUS := upTo_step (k := k) (w := v) F hpos hm q
              have HUS := Lib.hid hUS
              have HM2 := Lib.hid hm2
              clear hUS hm2 hm
              go_wp2_with fail
              refine wp_region_tail 16 (by kernel_rfl) (by kernel_rfl) ?_
              simp only [List.take_succ_cons, List.take_zero, List.drop_succ_cons, List.drop_zero]
              repeat (first | go_big_quiet_skip | (go_big_quiet_want; go_big_quiet_op; first | go_big_quiet_on | fail))
              refine wpQuiet_nil ?_
              rintro w6 ⟨⟨_, hk6⟩, rfl⟩
              have FL := fly_c k v hv0 g q q a (a + H) H H (upTo k H v F a) (upTo_nonneg hF a) H (Lib.hid rfl) (by omega) (by omega) w.heap.size w6 (rowKept hown hk6) (kept_trans hk hk6).size
              have hk' := kept_trans hk hk6
              go_wp2_with fail
              refine FL.mono ?_
              rintro e w7 ⟨rfl, hown7, hk7⟩
              clear FL
              rw [HUS.out] at hown7
              have K7 := hk7 w hk' (Nat.le_refl _)
              clear hown hk hk6 hk' hk7
              go_wp2_with fail
              exact ⟨⟨a + 2 * H, by omega, HM2.out, by go_num, hown7, K7⟩, by simp [intOf]; omega⟩
            · obtain rfl : a = q := by omega
              rw [upTo_all] at hown
              go_wp2_with fail
              exact ⟨⟨s + 1, by omega, by rw [HNX.out], ⟨_, HST.out, fun j => by unfold stage; split <;> exact of_nonneg _ _, hown⟩, hk⟩, by simp [intOf]; omega⟩
        · obtain rfl : s = L := by omega
          have e : mk q F = mk q (dft k q (nth xs) w0) := mk_congr fun j hj => hend F hS j hj
          rw [e] at hown
          rw [HN.out]
          clear e hS hend hsp hlt2 hl1 hl2
          have hq0 : ¬ (q : Int) < q := by omega
          go_wp2_with fail
          have hO : Own .u64 59 w.heap.size wr (.slice (some ⟨g, 0, none⟩) q q) (mk q (dft k q (nth xs) w0)) := by
            unfold Own
            rw [mk_length]
            exact hown
          exact bodyPost_ret (v := .slice (some ⟨g, 0, none⟩) q q) (by simp [results, Try.results70, go_sem]) rfl ⟨_, rfl, hO, hk⟩
end Go.Proofs.Ythbbkmkaopgmdaa
/-
  Layer 2 (ntt): forward and back.
-/
namespace Go.Proofs.Ythbbkmkaopgmdaa
open Go.RowKit BG
attribute [local go_sem ↓] Go.wp_at_zero Go.wp_at_succ
set_option linter.unusedVariables false

theorem amiss_zero {k n : Int} (h : amiss k n = 0) : pr k ≠ 0 ∧ hasLog n = true := by
  unfold amiss at h
  by_cases hp : pr k = 0
  · rw [if_pos hp] at h; cases h
  · rw [if_neg hp] at h
    refine ⟨hp, ?_⟩
    cases hl : hasLog n
    · rw [hl] at h; simp at h
    · rfl
theorem rootOf {k : Int} (h : pr k ≠ 0) {L : Nat} (hL : L ≤ 12) : RootOf k L (rootm k L) := by
  have hb := pr_big h
  match L, hL with
  | 0, hL =>
    refine ⟨?_, fun M e => by cases e⟩
    have := rootm_pow h hL
    unfold pw at this
    rw [Int.toNat_natCast] at this
    show of k _ = of k 1
    rw [this, of_one h]
  | M + 1, hL =>
    refine RootOf.of_neg ?_
    have := rootm_half h hL
    unfold pw at this
    rw [Int.toNat_natCast] at this
    show of k _ = of k (-1)
    rw [this, of_eq h, show (-1 : Int) % pr k = (pr k - 1) % pr k by rw [show pr k - 1 = -1 + pr k by omega, Int.add_emod_right], Int.emod_eq_of_lt (by omega) (by omega)]
theorem pow_ne {k : Int} (h : pr k ≠ 0) {L : Nat} (hL : L ≤ 12) : of k ((2 ^ L : Nat) : Int) ≠ 0 := by
  have hb := pr_big h
  have h1 := Nat.two_pow_pos L
  have h2 : 2 ^ L ≤ 2 ^ 12 := Nat.pow_le_pow_right (by decide) hL
  rw [of_small (Int.natCast_nonneg _) (by omega)]
  omega
theorem rootv_eq {k : Int} (h : pr k ≠ 0) {L : Nat} (hL : L ≤ 12) : rootv k (L : Int) = rootm k L := by
  have : hasRoot k (L : Int) = true := by simp [hasRoot, h]; omega
  unfold rootv
  rw [if_pos this, Int.toNat_natCast]
theorem len_log {k : Int} {xs : List Int} (h : amiss k xs.length = 0) : lgv xs.length ≤ 12 ∧ xs.length = 2 ^ lgv xs.length := by
  obtain ⟨h1, h2⟩ := log_some (amiss_zero h).2
  exact ⟨h1, by exact_mod_cast h2⟩
def fwdv (k : Int) (xs : List Int) : List Int := if amiss k xs.length = 0 then mk xs.length (dft k xs.length (nth xs) (rootm k (lgv xs.length))) else []
def invv (k : Int) (xs : List Int) : List Int := if amiss k xs.length = 0 then mk xs.length (idft k xs.length (nth xs) (rootm k (lgv xs.length))) else []
theorem Own.pos {k : IntKind} {e : TypeId} {base : Nat} {w : World} {v : Value} {xs : List Int} (h : Own k e base w v xs) (h0 : 0 < xs.length) : ∃ g c, v = .slice (some ⟨g, 0, none⟩) xs.length c := by
  rcases h.2 with ⟨_, h1⟩ | ⟨g, cap, cur, he, _⟩
  · omega
  · exact ⟨g, cap, he⟩
theorem idft_nonneg (k : Int) (n : Nat) (y : Nat → Int) (w : Int) (j : Nat) : 0 ≤ idft k n y w j := (mulm_bd _ _ _).1
theorem dft_nonneg (k : Int) (n : Nat) (y : Nat → Int) (w : Int) (j : Nat) : 0 ≤ dft k n y w j := of_nonneg _ _
/-- The first q numbers are multiplied. -/
def timesTo (k : Int) (d : Nat → Int) (m : Nat → Int) (q j : Nat) : Int := if j < q then mulm k (d j) (m j) else d j
theorem timesTo_zero (k : Int) (d m : Nat → Int) (n : Nat) : mk n (timesTo k d m 0) = mk n d := mk_congr fun j _ => by unfold timesTo; rw [if_neg (by omega)]
theorem timesTo_all (k : Int) (d m : Nat → Int) (n : Nat) : mk n (timesTo k d m n) = mk n fun j => mulm k (d j) (m j) := mk_congr fun j hj => by unfold timesTo; rw [if_pos hj]
theorem timesTo_at (k : Int) (d m : Nat → Int) (q : Nat) : timesTo k d m q q = d q := by unfold timesTo; rw [if_neg (by omega)]
theorem timesTo_set (k : Int) (d m : Nat → Int) {n q : Nat} (hq : q < n) : (mk n (timesTo k d m q)).set q (mulm k (d q) (m q)) = mk n (timesTo k d m (q + 1)) := by
  rw [mk_set _ hq]
  refine mk_congr fun j _ => ?_
  unfold timesTo
  by_cases h : j = q
  · rw [if_pos h, if_pos (by omega), h]
  · rw [if_neg h]
    by_cases h2 : j < q
    · rw [if_pos h2, if_pos (by omega)]
    · rw [if_neg h2, if_neg (by omega)]
set_option maxHeartbeats 2000000 in
theorem forward_c (k : Int) (A : Option Addr) (cap : Nat) (xs : List Int) (hu : NN xs) (w : World) (hr : Rd .u64 w A xs) :
    Calls Try.prog 47 #[.int .i64 k, .slice A xs.length cap] w fun e w' => ∃ v, e = .returned (.tuple #[v, .int .i64 (amiss k xs.length)]) ∧ Own .u64 59 w.heap.size w' v (fwdv k xs) ∧ Kept w w' := by
  have hm := hr.1
  have C := check_c k xs.length
  by_cases hz : amiss k xs.length = 0
  · rw [hz] at C
    rw [hz]
    obtain ⟨hp, hlg⟩ := amiss_zero hz
    obtain ⟨hL, hx⟩ := len_log hz
    have hval : fwdv k xs = mk xs.length (dft k xs.length (nth xs) (rootm k (lgv xs.length))) := by unfold fwdv; rw [if_pos hz]
    have HV := Lib.hid hval
    have LG := log_c xs.length
    unfold Ltuple at LG
    rw [hlg] at LG
    have RT := root_c k (lgv xs.length : Nat) (by omega) (by omega)
    rw [rootv_eq hp hL] at RT
    have hw := rootOf hp hL
    have h0 := (rootm_bd k (lgv xs.length)).1
    generalize hasRoot k _ = hb at RT
    generalize rootm k (lgv xs.length) = w0 at *
    generalize lgv xs.length = L at *
    have HX := Lib.hid hx
    clear hx hz hlg hval
    go_enter Try.func47, Try.ntmps47
    go_wp2_with fail
    refine (C _).mono ?_
    rintro e w1 ⟨rfl, hk1⟩
    go_wp2_with fail
    refine (LG _).mono ?_
    rintro e w2 ⟨rfl, hk2⟩
    go_wp2_with fail
    refine (RT _).mono ?_
    rintro e w3 ⟨rfl, hk3⟩
    have hk := kept_trans hk1 (kept_trans hk2 hk3)
    go_wp2_with fail
    refine (transform_c k w0 h0 L hL hw A cap xs hu HX.out w3 (hr.kept hk)).mono ?_
    rintro e w4 ⟨v, rfl, hown, hk4⟩
    go_wp2_with fail
    exact bodyPost_ret (v := .tuple #[v, .int .i64 0]) (by simp [results, Try.results47, go_sem]) rfl ⟨_, rfl, by rw [HV.out]; exact hown.less hk.size, kept_trans hk hk4⟩
  · have hval : fwdv k xs = [] := by unfold fwdv; rw [if_neg hz]
    have HV := Lib.hid hval
    clear hval
    generalize amiss k xs.length = e at *
    have hne : ¬ e = 0 := hz
    clear hz
    go_enter Try.func47, Try.ntmps47
    go_wp2_with fail
    refine (C _).mono ?_
    rintro e w1 ⟨rfl, hk1⟩
    go_wp2_with fail
    exact bodyPost_ret (v := .tuple #[.slice none 0 0, .int .i64 e]) (by simp [results, Try.results47, go_sem]) rfl ⟨_, rfl, by rw [HV.out]; exact Own.nil _ _ _ _, hk1⟩
set_option maxHeartbeats 2000000 in
theorem inverse_c (k : Int) (A : Option Addr) (cap : Nat) (xs : List Int) (hu : NN xs) (w : World) (hr : Rd .u64 w A xs) :
    Calls Try.prog 52 #[.int .i64 k, .slice A xs.length cap] w fun e w' => ∃ v, e = .returned (.tuple #[v, .int .i64 (amiss k xs.length)]) ∧ Own .u64 59 w.heap.size w' v (invv k xs) ∧ Kept w w' := by
  have hm := hr.1
  have C := check_c k xs.length
  by_cases hz : amiss k xs.length = 0
  · rw [hz] at C
    rw [hz]
    obtain ⟨hp, hlg⟩ := amiss_zero hz
    obtain ⟨hL, hx⟩ := len_log hz
    have hval : invv k xs = mk xs.length (fun j => mulm k (dft k xs.length (nth xs) (invm k (rootm k (lgv xs.length))) j) (invm k (xs.length : Nat))) := by unfold invv; rw [if_pos hz]; rfl
    have HV := Lib.hid hval
    have LG := log_c xs.length
    unfold Ltuple at LG
    rw [hlg] at LG
    have RT := root_c k (lgv xs.length : Nat) (by omega) (by omega)
    rw [rootv_eq hp hL] at RT
    have hw0 := rootOf hp hL
    have h0 := (rootm_bd k (lgv xs.length)).1
    have hne := rootm_ne hp hL
    have hw : RootOf k (lgv xs.length) (invm k (rootm k (lgv xs.length))) := hw0.inv (by unfold Cong; rw [mul_invm hne, of_one hp])
    have I1 := inv_c k (rootm k (lgv xs.length)) h0
    have I2 := inv_c k (xs.length : Nat) (Int.natCast_nonneg _)
    have h1 := (invm_bd k (rootm k (lgv xs.length))).1
    have h2 := (invm_bd k (xs.length : Nat)).1
    have hpos : 0 < xs.length := by rw [hx]; exact Nat.two_pow_pos _
    have hmax : xs.length ≤ 4096 := by rw [hx]; exact Nat.pow_le_pow_right (by decide) hL
    generalize hasRoot k _ = hb at RT
    generalize hasInv k _ = hb1 at I1
    generalize hasInv k _ = hb2 at I2
    generalize invm k (rootm k (lgv xs.length)) = v0 at *
    generalize invm k (xs.length : Nat) = m0 at *
    generalize rootm k (lgv xs.length) = w0 at *
    generalize lgv xs.length = L at *
    have HX := Lib.hid hx
    clear hx hw0 hne hlg hz hval
    go_enter Try.func52, Try.ntmps52
    go_wp2_with fail
    refine (C _).mono ?_
    rintro e w1 ⟨rfl, hk1⟩
    go_wp2_with fail
    refine (LG _).mono ?_
    rintro e w2 ⟨rfl, hk2⟩
    go_wp2_with fail
    refine (RT _).mono ?_
    rintro e w3 ⟨rfl, hk3⟩
    go_wp2_with fail
    refine (I1 _).mono ?_
    rintro e w4 ⟨rfl, hk4⟩
    go_wp2_with fail
    refine (I2 _).mono ?_
    rintro e w5 ⟨rfl, hk5⟩
    have hk := kept_trans hk1 (kept_trans hk2 (kept_trans hk3 (kept_trans hk4 hk5)))
    clear hk1 hk2 hk3 hk4 hk5 C LG RT I1 I2
    go_wp2_with fail
    refine (transform_c k v0 h1 L hL hw A cap xs hu HX.out w5 (hr.kept hk)).mono ?_
    rintro e w6 ⟨v, rfl, hown, hk6⟩
    replace hown := hown.less hk.size
    replace hk := kept_trans hk hk6
    obtain ⟨g, c, rfl⟩ := hown.pos (by rw [mk_length]; exact hpos)
    have hown2 : w6.ownsRow w.heap.size 59 1 (.slice (some ⟨g, 0, none⟩) xs.length c) xs.length ((mk xs.length (timesTo k (dft k xs.length (nth xs) v0) (fun _ => m0) 0)).map (Value.int .u64)) := by
      rw [timesTo_zero]
      have h := hown
      unfold Own at h
      rwa [mk_length] at h
    rw [mk_length]
    clear hown hw hk6
    have hd0 := dft_nonneg k xs.length (nth xs) v0
    have hall := timesTo_all k (dft k xs.length (nth xs) v0) (fun _ => m0) xs.length
    rw [← hall] at HV
    clear hall
    generalize dft k xs.length (nth xs) v0 = d at *
    clear hu
    generalize hn : xs.length = n at *
    go_wp2_with fail
    go_loopw [56] (fun i wr => ∃ q : Nat, q ≤ n ∧ i = .int .i64 q ∧ wr.ownsRow w.heap.size 59 1 (.slice (some ⟨g, 0, none⟩) n c) n ((mk n (timesTo k d (fun _ => m0) q)).map (Value.int .u64)) ∧ Kept w wr) (fun i _ => n - (intOf i).toNat)
    case atStart => exact ⟨0, Nat.zero_le _, rfl, hown2, hk⟩
    case round =>
      clear hown2 hk
      obtain ⟨q, hq, rfl, hown, hk⟩ := hrel
      by_cases hlt : q < n
      · have c0 := World.ownsRow.cellAt hown q (by omega)
        rw [List.getElem?_map, List.getElem?_eq_getElem (by rw [mk_length]; omega), Option.map_some, ← nth_lt (by rw [mk_length]; omega), nth_mk hlt, timesTo_at] at c0
        have hset := timesTo_set k d (fun _ => m0) hlt
        have M := mul_c k (d q) m0 (hd0 q) h2
        generalize mulm k (d q) m0 = y at *
        generalize d q = x at *
        have HS := Lib.hid hset
        clear hset
        have ea : (⟨g, 0, none⟩ : Addr).add q = ⟨g, q, none⟩ := by unfold Addr.add; split <;> simp_all
        go_wp2_with fail
        refine (M _).mono ?_
        rintro e w7 ⟨rfl, hk7⟩
        have hownA : w7.ownsRow w.heap.size 59 1 (.slice (some ⟨g, 0, none⟩) n c) n ((mk n (timesTo k d (fun _ => m0) q)).map (Value.int .u64)) := rowKept hown hk7
        have hkA := kept_trans hk hk7
        have d0 := World.ownsRow.cellAt hownA q (by omega)
        rw [List.getElem?_map, List.getElem?_eq_getElem (by rw [mk_length]; omega), Option.map_some] at d0
        have f0 := World.ownsRow.frozenAt hownA q
        have S := World.ownsRow.stored hownA q (.int .u64 y)
        rw [← List.map_set, HS.out] at S
        generalize (mk n (timesTo k d (fun _ => m0) q))[q]'(by rw [mk_length]; omega) = old at *
        clear hown hk hk7 c0
        go_wp2_with fail
        exact ⟨⟨q + 1, by omega, by go_num, S.1, kept_grown hkA hownA (Nat.le_refl _) S.2⟩, by simp [intOf]; omega⟩
      · obtain rfl : q = n := by omega
        go_wp2_with fail
        have hO : Own .u64 59 w.heap.size wr (.slice (some ⟨g, 0, none⟩) q c) (mk q (timesTo k d (fun _ => m0) q)) := by
          unfold Own
          rw [mk_length]
          exact hown
        exact bodyPost_ret (v := .tuple #[.slice (some ⟨g, 0, none⟩) q c, .int .i64 0]) (by simp [results, Try.results52, go_sem]) rfl ⟨_, rfl, by rw [HV.out]; exact hO, hk⟩
  · have hval : invv k xs = [] := by unfold invv; rw [if_neg hz]
    have HV := Lib.hid hval
    clear hval
    generalize amiss k xs.length = e at *
    have hne : ¬ e = 0 := hz
    clear hz
    go_enter Try.func52, Try.ntmps52
    go_wp2_with fail
    refine (C _).mono ?_
    rintro e w1 ⟨rfl, hk1⟩
    go_wp2_with fail
    exact bodyPost_ret (v := .tuple #[.slice none 0 0, .int .i64 e]) (by simp [results, Try.results52, go_sem]) rfl ⟨_, rfl, by rw [HV.out]; exact Own.nil _ _ _ _, hk1⟩
end Go.Proofs.Ythbbkmkaopgmdaa
/-
  Layer 2 (ntt): products that go round.
-/
namespace Go.Proofs.Ythbbkmkaopgmdaa
open Go.RowKit BG
attribute [local go_sem ↓] Go.wp_at_zero Go.wp_at_succ
set_option linter.unusedVariables false

def cycErr (k : Int) (n m : Nat) : Int := if amiss k n = 0 then (if m = n then 0 else 21) else amiss k n
def cycv (k : Int) (xs ys : List Int) : List Int := if cycErr k xs.length ys.length = 0 then mk xs.length fun t => of k (cyc xs.length (nth xs) (nth ys) t) else []
theorem cycErr_zero {k : Int} {n m : Nat} (h : cycErr k n m = 0) : amiss k n = 0 ∧ m = n := by
  unfold cycErr at h
  split at h
  · rename_i h1
    refine ⟨h1, ?_⟩
    split at h
    · assumption
    · cases h
  · rename_i h1; exact absurd h h1
theorem invv_prod {k : Int} {xs ys : List Int} (hl : ys.length = xs.length) (h : amiss k xs.length = 0) : invv k (mk xs.length fun j => mulm k (dft k xs.length (nth xs) (rootm k (lgv xs.length)) j) (dft k xs.length (nth ys) (rootm k (lgv xs.length)) j)) = mk xs.length fun t => of k (cyc xs.length (nth xs) (nth ys) t) := by
  obtain ⟨hp, hlg⟩ := amiss_zero h
  obtain ⟨hL, hx⟩ := len_log h
  unfold invv
  rw [mk_length, if_pos h]
  refine mk_congr fun t ht => ?_
  have h1 := idft_mul (rootOf hp hL) (rootm_ne hp hL) (pow_ne hp hL) (nth xs) (nth ys) t (by rw [← hx]; exact ht)
  rw [← hx] at h1
  rw [← h1]
  unfold idft
  rw [dft_cong (y := fun j => mulm k (dft k xs.length (nth xs) (rootm k (lgv xs.length)) j) (dft k xs.length (nth ys) (rootm k (lgv xs.length)) j)) (fun j hj => by rw [nth_mk hj]; exact Cong.refl _ _) (Cong.refl _ _)]
theorem fwdv_eq {k : Int} {xs : List Int} (h : amiss k xs.length = 0) : fwdv k xs = mk xs.length (dft k xs.length (nth xs) (rootm k (lgv xs.length))) := by unfold fwdv; rw [if_pos h]
theorem amiss_pos {k : Int} {n : Nat} (h : amiss k n = 0) : 0 < n ∧ n ≤ 4096 := by
  obtain ⟨h1, h2⟩ := log_some (amiss_zero h).2
  have h3 := Nat.two_pow_pos (lgv n)
  have h4 : 2 ^ lgv n ≤ 2 ^ 12 := Nat.pow_le_pow_right (by decide) h1
  omega
/-- The products up to row i, column j, laid where they go. -/
def cycTo (k : Int) (n : Nat) (a b : Nat → Int) (i j t : Nat) : Int :=
  of k ((sumTo i fun i' => sumTo n fun j' => if (i' + j') % n = t then a i' * b j' else 0) + sumTo j fun j' => if (i + j') % n = t then a i * b j' else 0)
theorem cycTo_zero (k : Int) (n : Nat) (a b : Nat → Int) (hk : pr k ≠ 0) : mk n (cycTo k n a b 0 0) = mk n fun _ => 0 := mk_congr fun t _ => by
  unfold cycTo
  show of k (0 + 0) = 0
  exact of_small (by decide) (by have := pr_big hk; omega)
theorem cycTo_row (k : Int) (n : Nat) (a b : Nat → Int) (i : Nat) : mk n (cycTo k n a b i n) = mk n (cycTo k n a b (i + 1) 0) := mk_congr fun t _ => by
  unfold cycTo
  show _ = of k (sumTo i _ + _ + 0)
  rw [Int.add_zero]
theorem cycTo_all (k : Int) (n : Nat) (a b : Nat → Int) : mk n (cycTo k n a b n 0) = mk n fun t => of k (cyc n a b t) := mk_congr fun t _ => by
  unfold cycTo cyc
  show of k (_ + 0) = _
  rw [Int.add_zero]
theorem cycTo_set (k : Int) {n : Nat} (a b : Nat → Int) (i j : Nat) (hn : 0 < n) : (mk n (cycTo k n a b i j)).set ((i + j) % n) (addm k (cycTo k n a b i j ((i + j) % n)) (mulm k (a i) (b j))) = mk n (cycTo k n a b i (j + 1)) := by
  rw [mk_set _ (Nat.mod_lt _ hn)]
  refine mk_congr fun t _ => ?_
  by_cases h : t = (i + j) % n
  · rw [if_pos h, h]
    unfold cycTo addm mulm
    rw [of_add_l, of_add_r]
    have e : (sumTo (j + 1) fun j' => if (i + j') % n = (i + j) % n then a i * b j' else 0) = (sumTo j fun j' => if (i + j') % n = (i + j) % n then a i * b j' else 0) + a i * b j := by
      show _ + (if (i + j) % n = (i + j) % n then a i * b j else 0) = _
      rw [if_pos rfl]
    rw [e, Int.add_assoc]
  · rw [if_neg h]
    unfold cycTo
    have e : (sumTo (j + 1) fun j' => if (i + j') % n = t then a i * b j' else 0) = sumTo j fun j' => if (i + j') % n = t then a i * b j' else 0 := by
      show _ + (if (i + j) % n = t then a i * b j else 0) = _
      rw [if_neg (fun e => h e.symm), Int.add_zero]
    rw [e]
end Go.Proofs.Ythbbkmkaopgmdaa
