/-
  Rows along rows: without Go.
-/
import Derived.Test.YtobailigphmopaaConvP
namespace Go.Proofs.Ytobailigphmopaa
open Go.RowKit BG
set_option linter.unusedVariables false

theorem addr_two (a : Addr) (m n : Nat) : (a.add m).add n = a.add (m + n) := by
  unfold Addr.add
  by_cases h : m = 0
  · subst h; simp
  · by_cases h' : n = 0
    · subst h'; simp [h]
    · simp [h, h']; omega
/-- A part of a row reads as that part of its numbers. -/
theorem Rd.sub {k : IntKind} {w : World} {ad : Addr} {xs ys : List Int} (h : Rd k w (some ad) xs) (d : Nat) (hl : d + ys.length ≤ xs.length) (hy : ∀ j, j < ys.length → nth ys j = nth xs (d + j)) : Rd k w (some (ad.add d)) ys := by
  refine ⟨by have := h.1; omega, fun hp => ⟨_, rfl, fun j hj => ?_⟩⟩
  obtain ⟨ad', e, hc⟩ := h.2 (by omega)
  cases e
  rw [addr_two, hc (d + j) (by omega), hy j hj]
theorem Rd.pre {k : IntKind} {w : World} {A : Option Addr} {xs ys : List Int} (h : Rd k w A xs) (hl : ys.length ≤ xs.length) (hy : ∀ j, j < ys.length → nth ys j = nth xs j) : Rd k w A ys := by
  refine ⟨by have := h.1; omega, fun hp => ?_⟩
  obtain ⟨ad, e, hc⟩ := h.2 (by omega)
  exact ⟨ad, e, fun j hj => by rw [hc j (by omega), hy j hj]⟩
theorem amiss_pow {k : Int} (h : pr k ≠ 0) {l : Nat} (hl : l ≤ 12) : amiss k ((2 ^ l : Nat) : Int) = 0 := by
  unfold amiss; rw [if_neg h, (log_pow l hl).1]; rfl
theorem grT_att (f : Nat → Int) : ∀ n, grT f n = 0 ∨ ∃ j, j < n ∧ f j = grT f n := by
  intro n
  induction n with
  | zero => exact .inl rfl
  | succ n ih =>
    have e : grT f (n + 1) = max (grT f n) (f n) := rfl
    by_cases h : grT f n < f n
    · exact .inr ⟨n, by omega, by rw [e]; omega⟩
    · rcases ih with ih | ⟨j, hj, hf⟩
      · exact .inl (by rw [e]; omega)
      · exact .inr ⟨j, by omega, by rw [e]; omega⟩
/-- A row the other way round. -/
def backv (xs : List Int) : List Int := mk xs.length fun j => nth xs (xs.length - 1 - j)
theorem backv_length (xs : List Int) : (backv xs).length = xs.length := mk_length _ _
theorem backv_at {xs : List Int} {j : Nat} (h : j < xs.length) : nth (backv xs) j = nth xs (xs.length - 1 - j) := nth_mk h
theorem u64_back {xs : List Int} (hu : U64 xs) : U64 (backv xs) := by
  intro j
  by_cases hj : j < xs.length
  · rw [backv_at hj]; exact hu _
  · unfold nth; rw [List.getD_eq_getElem?_getD, List.getElem?_eq_none (by rw [backv_length]; omega)]; exact ⟨Int.le_refl 0, by decide⟩
theorem greatest_back (xs : List Int) : greatest (backv xs) = greatest xs := by
  unfold greatest
  rw [backv_length]
  refine grT_is (grT_nonneg _ _) (fun j hj => ?_) ?_
  · rw [backv_at hj]; exact le_grT (by omega)
  · rcases grT_att (nth xs) xs.length with h | ⟨j, hj, h⟩
    · exact .inl h
    · refine .inr ⟨xs.length - 1 - j, by omega, ?_⟩
      rw [backv_at (by omega), show xs.length - 1 - (xs.length - 1 - j) = j by omega, h]
theorem cs_congr {a a' b b' : Nat → Int} {la lb : Nat} (ha : ∀ i, i < la → a i = a' i) (hb : ∀ i, i < lb → b i = b' i) (t : Nat) : cs a b la lb t = cs a' b' la lb t :=
  sumTo_congr fun i hi => by
    by_cases h : i ≤ t ∧ t - i < lb
    · rw [if_pos h, if_pos h, ha i hi, hb _ h.2]
    · rw [if_neg h, if_neg h]
def corrErr (ps ts : List Int) : Int := if ps.length = 0 ∨ ts.length < ps.length then 0 else cerr ps.length ts.length (greatest ps) (greatest ts)
def corrv (ps ts : List Int) : List Int := if ps.length = 0 ∨ ts.length < ps.length ∨ corrErr ps ts ≠ 0 then [] else slidev (nth ps) (nth ts) ps.length ts.length
theorem perr_back {ps ts : List Int} (hm : ps.length ≠ 0) (hn : ¬ ts.length < ps.length) : perr (backv ps) ts = corrErr ps ts := by
  unfold perr corrErr
  rw [backv_length, greatest_back, if_neg (by omega), if_neg (by omega)]
theorem prod_slide {ps ts : List Int} (hm : ps.length ≠ 0) (hn : ¬ ts.length < ps.length) (he : corrErr ps ts = 0) : (pval (backv ps) ts).length = ps.length + ts.length - 1 ∧ (corrv ps ts).length = ts.length - ps.length + 1 ∧ ∀ i, i < ts.length - ps.length + 1 → nth (corrv ps ts) i = nth (pval (backv ps) ts) (ps.length - 1 + i) := by
  have hp : perr (backv ps) ts = 0 := by rw [perr_back hm hn]; exact he
  have e1 : pval (backv ps) ts = prodv (nth (backv ps)) (nth ts) ps.length ts.length := by
    unfold pval
    rw [backv_length, if_neg (by rw [hp]; omega)]
  have e2 : corrv ps ts = slidev (nth ps) (nth ts) ps.length ts.length := by
    unfold corrv
    rw [if_neg (by rw [he]; omega)]
  rw [e1, e2]
  unfold prodv slidev
  refine ⟨mk_length _ _, mk_length _ _, fun i hi => ?_⟩
  rw [nth_mk hi, nth_mk (by omega), ← cs_slide (by omega) (by omega) hi]
  rw [cs_congr (a := nth (backv ps)) (a' := fun j => nth ps (ps.length - 1 - j)) (b' := nth ts) (fun j hj => backv_at hj) (fun _ _ => rfl)]
end Go.Proofs.Ytobailigphmopaa
