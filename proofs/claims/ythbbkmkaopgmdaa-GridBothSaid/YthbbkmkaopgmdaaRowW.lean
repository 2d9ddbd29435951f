/-
  What the rows of layer 10 need: how a leaf is opened.
-/
import Derived.Test.YthbbkmkaopgmdaaRow
import Derived.ChangeSame
import Derived.ChangeMaps5
import Derived.Test.YthbbkmkaopgmdaaWLeafJ
set_option linter.unusedVariables false
namespace Go.Proofs.Ythbbkmkaopgmdaa
open Go.ChangeShapes Go.WideShapes Go.ChangeAt Go.RowKit
section
variable {H : Type} {enc : TypeId × Value → H} {P : Program} {w : World} {base : Nat} {held : Bool} {t e f : TypeId} {k : IntKind}
/-- A slice of arrays of whole numbers that came in: the numbers, one behind the other. -/
theorem pts_cells {c fuel : Nat} {cs : List Value} {x : DataW H × List MemPlace} (ht : P.underlying t = some (.slice e)) (he : P.underlying e = some (.array c f)) (hf : P.underlying f = some (.int k)) (hcf : P.cellsOf f = 1) (hce : P.cellsOf e = c) (hc0 : 0 < c)
    (hfu : DataW.trod enc P w base (fun _ => true) held fuel t cs = some x) :
    ∃ (A : Option Addr) (cap n : Nat) (xs : List Int), cs = [.slice A n cap] ∧ xs.length = c * n ∧ n ≤ maxLen ∧ (c * n ≤ 9223372036854775807 → Rd k w A xs) ∧ (∀ z ∈ xs, (Lit.int k z).wf = true) := by
  rcases Go.Deep.open_slice ht hfu with ⟨hcs, hx⟩ | ⟨a, len, cap, m, n, D, Pl, hcs, _, hl, hm, hmm, hx, hel⟩
  · exact ⟨none, 0, 0, [], hcs, by simp, Nat.zero_le _, fun _ => Rd.nil _ _ _, by simp⟩
  · simp only [if_true] at hmm
    have each : ∀ i, ∃ zs : List Int, i < len → zs.length = c ∧ (∀ q, q < c → w.cell? (a.add (i * c + q)) = some (.int k (nth zs q))) ∧ ∀ z ∈ zs, (Lit.int k z).wf = true := by
      intro i
      by_cases hi : i < len
      · obtain ⟨cs', h1, h2⟩ := hel i (by omega)
        rw [hce] at h1
        obtain ⟨_, hlen, hc⟩ := World.cells?_some h1
        obtain ⟨zs, z1, rfl, z3⟩ := arr_ints he hf hcf hce h2
        refine ⟨zs, fun _ => ⟨z1, fun q hq => ?_, z3⟩⟩
        rw [← add_two, hc q hq, List.getElem?_map, List.getElem?_eq_getElem (by omega), Option.map_some, nth_lt (by omega)]
      · exact ⟨[], fun h => absurd h hi⟩
    obtain ⟨F, hF⟩ := Classical.axiomOfChoice each
    have pd : ∀ p, p < c * len → p / c < len ∧ p % c < c ∧ p / c * c + p % c = p := fun p hp => ⟨Nat.div_lt_of_lt_mul hp, Nat.mod_lt _ hc0, Nat.div_add_mod' p c⟩
    refine ⟨some a, cap, len, mk (c * len) fun p => nth (F (p / c)) (p % c), hcs, mk_length _ _, by omega, fun hb => ⟨by rw [mk_length]; exact hb, fun _ => ⟨a, rfl, fun p hp => ?_⟩⟩, fun z hz => ?_⟩
    · rw [mk_length] at hp
      obtain ⟨p1, p2, p3⟩ := pd p hp
      have := (hF _ p1).2.1 _ p2
      rw [nth_mk hp]
      rwa [p3] at this
    · unfold mk at hz
      rw [List.mem_map] at hz
      obtain ⟨p, hp, rfl⟩ := hz
      obtain ⟨p1, p2, p3⟩ := pd p (List.mem_range.1 hp)
      obtain ⟨f1, _, f3⟩ := hF _ p1
      refine f3 _ ?_
      rw [nth_lt (by omega)]
      exact List.getElem_mem _
/-- A leaf that came in. -/
theorem open_leaf {c : Nat} {f0 f1 : Field} {v : Value} {d : DataW H} {p : List MemPlace} {r : Reach} {b0 : Nat} (hs : P.underlying t = some (.struct #[f0, f1])) (hct : P.cellsOf t = 2) (h00 : f0.offset = 0) (h01 : f1.offset = 1) (hc0 : P.cellsOf f0.type = 1) (hc1 : P.cellsOf f1.type = 1)
    (ht : P.underlying f0.type = some (.slice e)) (he : P.underlying e = some (.array c f)) (hf : P.underlying f = some (.int k)) (hcf : P.cellsOf f = 1) (hce : P.cellsOf e = c) (hcp : 0 < c) (hi : P.underlying f1.type = some (.int .i64))
    (hok : Value.okWide P w r b0 t v) (h : DataW.Trod enc P w base (fun _ => true) held t v d p) :
    ∃ (A : Option Addr) (cap n : Nat) (xs : List Int) (K : Int), v = leafV A n cap K ∧ xs.length = c * n ∧ n ≤ 9223372036854775807 ∧ (c * n ≤ 9223372036854775807 → Rd k w A xs) ∧ (∀ z ∈ xs, (Lit.int k z).wf = true) ∧ (Lit.int .i64 K).wf = true := by
  obtain ⟨cs, rfl, hsz⟩ := okWide_struct hs hok
  obtain ⟨fuel, hfu⟩ := h
  obtain ⟨y0, y1, m, _, hlen, h0, h1⟩ := trod_struct2 hs hfu
  rw [h00, hc0] at h0
  rw [h01, hc1] at h1
  have hl2 : cs.size = 2 := by rw [hsz, hct]
  obtain ⟨a, b, e2⟩ : ∃ a b, cs.toList = [a, b] := len2 (by simpa using hl2)
  have hcs : cs = #[a, b] := by rw [← Array.toArray_toList (xs := cs), e2]
  subst hcs
  simp only [Value.cells, List.drop_zero, List.take_succ_cons, List.take_zero, List.drop_succ_cons] at h0 h1
  obtain ⟨A, cap, n, xs, e3, hl, hn, hr, hw⟩ := pts_cells ht he hf hcf hce hcp h0
  obtain ⟨K, e4, _, hK⟩ := DataW.trod_int hi h1
  obtain rfl : a = .slice A n cap := by simpa using e3
  obtain rfl : b = .int .i64 K := by simpa using e4
  exact ⟨A, cap, n, xs, K, rfl, hl, by unfold maxLen at hn; omega, hr, hw, hK⟩
end
theorem u64_wf {xs : List Int} (h : ∀ z ∈ xs, (Lit.int .u64 z).wf = true) : U64 xs := by
  intro j
  unfold nth
  rw [List.getD_eq_getElem?_getD]
  by_cases hj : j < xs.length
  · rw [List.getElem?_eq_getElem hj]
    have := bounds_u64 (h _ (List.getElem_mem hj))
    exact this
  · rw [List.getElem?_eq_none (by omega)]; exact ⟨Int.le_refl 0, by decide⟩
end Go.Proofs.Ythbbkmkaopgmdaa
