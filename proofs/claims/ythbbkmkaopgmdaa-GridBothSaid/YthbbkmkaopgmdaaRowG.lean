/-
  What the rows of layer 22 need: how a field, and a mask, are opened.
-/
import Derived.Test.YthbbkmkaopgmdaaRowW
import Derived.Test.YthbbkmkaopgmdaaWGridJ
set_option linter.unusedVariables false
namespace Go.Proofs.Ythbbkmkaopgmdaa
open Go.ChangeShapes Go.WideShapes Go.ChangeAt Go.RowKit
section
variable {H : Type} {enc : TypeId × Value → H} {P : Program} {w : World} {base : Nat} {held : Bool} {t e f : TypeId} {k : IntKind}
/-- A field that came in. -/
theorem open_field {f0 f1 : Field} {v : Value} {d : DataW H} {p : List MemPlace} {r : Reach} {b0 : Nat} (hs : P.underlying t = some (.struct #[f0, f1])) (hct : P.cellsOf t = 2) (h00 : f0.offset = 0) (h01 : f1.offset = 1) (hc0 : P.cellsOf f0.type = 1) (hc1 : P.cellsOf f1.type = 1)
    (hi : P.underlying f0.type = some (.int .i64)) (ht : P.underlying f1.type = some .string)
    (hok : Value.okWide P w r b0 t v) (h : DataW.Trod enc P w base (fun _ => true) held t v d p) :
    ∃ (K : Int) (s : ByteArray), v = fieldV K s ∧ s.size ≤ 9223372036854775807 ∧ (Lit.int .i64 K).wf = true := by
  obtain ⟨cs, rfl, hsz⟩ := okWide_struct hs hok
  obtain ⟨fuel, hfu⟩ := h
  obtain ⟨y0, y1, m, _, hlen, h0, h1⟩ := trod_struct2 hs hfu
  rw [h00, hc0] at h0
  rw [h01, hc1] at h1
  have hl2 : cs.size = 2 := by rw [hsz, hct]
  obtain ⟨a, b, e2⟩ : ∃ a b, cs.toList = [a, b] := len2 (by simpa using hl2)
  have hcs : cs = #[a, b] := by rw [← Array.toArray_toList (xs := cs), e2]
  subst hcs
  simp only [Value.cells, List.drop_zero, List.take_succ_cons, List.take_zero, List.drop_succ_cons] at h0 h1
  obtain ⟨K, e3, _, hK⟩ := DataW.trod_int hi h0
  obtain ⟨s, e4, _, hy⟩ := DataW.trod_string ht h1
  obtain rfl : a = .int .i64 K := by simpa using e3
  obtain rfl : b = .string s := by simpa using e4
  exact ⟨K, s, rfl, by unfold maxLen at hy; omega, hK⟩
/-- A mask that came in. -/
theorem open_mask {c : Nat} {f0 f1 : Field} {v : Value} {d : DataW H} {p : List MemPlace} {r : Reach} {b0 : Nat} (hs : P.underlying t = some (.struct #[f0, f1])) (hct : P.cellsOf t = 2) (h00 : f0.offset = 0) (h01 : f1.offset = 1) (hc0 : P.cellsOf f0.type = 1) (hc1 : P.cellsOf f1.type = 1)
    (hi : P.underlying f0.type = some (.int .i64)) (ht : P.underlying f1.type = some (.slice e)) (he : P.underlying e = some (.array c f)) (hf : P.underlying f = some (.int k)) (hcf : P.cellsOf f = 1) (hce : P.cellsOf e = c) (hcp : 0 < c)
    (hok : Value.okWide P w r b0 t v) (h : DataW.Trod enc P w base (fun _ => true) held t v d p) :
    ∃ (A : Option Addr) (cap n : Nat) (xs : List Int) (K : Int), v = maskV K A n cap ∧ xs.length = c * n ∧ n ≤ 9223372036854775807 ∧ (c * n ≤ 9223372036854775807 → Rd k w A xs) ∧ (∀ z ∈ xs, (Lit.int k z).wf = true) ∧ (Lit.int .i64 K).wf = true := by
  obtain ⟨cs, rfl, hsz⟩ := okWide_struct hs hok
  obtain ⟨fuel, hfu⟩ := h
  obtain ⟨y0, y1, m, _, hlen, h0, h1⟩ := trod_struct2 hs hfu
  rw [h00, hc0] at h0
  rw [h01, hc1] at h1
  have hl2 : cs.size = 2 := by rw [hsz, hct]
  obtain ⟨a, b, e2⟩ : ∃ a b, cs.toList = [a, b] := len2 (by simpa using hl2)
  have hcs : cs = #[a, b] := by rw [← Array.toArray_toList (xs := cs), e2]
  subst hcs
  simp only [Value.cells, List.drop_zero, List.take_succ_cons, List.take_zero, List.drop_succ_cons] at h0 h1
  obtain ⟨A, cap, n, xs, e3, hl, hn, hr, hw⟩ := pts_cells ht he hf hcf hce hcp h1
  obtain ⟨K, e4, _, hK⟩ := DataW.trod_int hi h0
  obtain rfl : b = .slice A n cap := by simpa using e3
  obtain rfl : a = .int .i64 K := by simpa using e4
  exact ⟨A, cap, n, xs, K, rfl, hl, by unfold maxLen at hn; omega, hr, hw, hK⟩
end
end Go.Proofs.Ythbbkmkaopgmdaa
