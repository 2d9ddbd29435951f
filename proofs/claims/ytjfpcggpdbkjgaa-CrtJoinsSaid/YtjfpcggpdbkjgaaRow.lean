/-
  What the rows of this seat's statements need: how arrays of whole numbers and slices of whole numbers are opened.
-/
import Derived.SizedLaws
import Derived.ChangeSlices
import Derived.OpenShut
import Derived.ProofKit
set_option linter.unusedVariables false
namespace Go.Proofs.Ytjfpcggpdbkjgaa
open Go.ChangeShapes Go.WideShapes Go.ChangeAt Go.RowKit
section
variable {H : Type} {enc : TypeId × Value → H} {P : Program} {w : World} {base : Nat} {spare : Nat → Bool} {held : Bool} {fuel : Nat} {t e : TypeId} {k : IntKind}

def numOf' : Value → Int | .int _ z => z | _ => 0

theorem cells_ints {n : Nat} {cs : List Value} (hl : cs.length = n) (each : ∀ i, i < n → ∃ z, cs[i]? = some (.int k z) ∧ (Lit.int k z).wf = true) :
    ∃ zs : List Int, zs.length = n ∧ cs = zs.map (Value.int k) ∧ ∀ z ∈ zs, (Lit.int k z).wf = true := by
  refine ⟨cs.map numOf', by simp [hl], ?_, ?_⟩
  · refine List.ext_getElem? fun i => ?_
    by_cases hi : i < n
    · obtain ⟨z, hz, _⟩ := each i hi
      simp [hz, numOf']
    · rw [List.getElem?_eq_none (by omega), List.getElem?_eq_none (by simp; omega)]
  · intro z hz
    rw [List.mem_map] at hz
    obtain ⟨v, hv, rfl⟩ := hz
    obtain ⟨i, hi⟩ := List.getElem?_of_mem hv
    obtain ⟨z, hz, hwz⟩ := each i (by have := (List.getElem?_eq_some_iff.1 hi).1; omega)
    rw [hi] at hz
    cases hz
    exact hwz

theorem arr_ints {n : Nat} {cs : List Value} {x : DataW H × List MemPlace} (ht : P.underlying t = some (.array n e)) (he : P.underlying e = some (.int k)) (hce : P.cellsOf e = 1) (hct : P.cellsOf t = n)
    (h : DataW.trod enc P w base spare held fuel t cs = some x) : ∃ zs : List Int, zs.length = n ∧ cs = zs.map (Value.int k) ∧ ∀ z ∈ zs, (Lit.int k z).wf = true := by
  obtain ⟨xs, m, _, _, hlen, hxs, hel⟩ := DataW.trod_array ht h
  rw [hct] at hlen
  refine cells_ints hlen fun i hi => ?_
  have h1 := hel i hi
  rw [hce, Nat.mul_one, List.getElem?_eq_getElem (by omega)] at h1
  rw [List.drop_eq_getElem_cons (by omega), List.take_succ_cons, List.take_zero] at h1
  obtain ⟨z, hz, _, hwz⟩ := DataW.trod_int he h1
  refine ⟨z, ?_, hwz⟩
  rw [List.getElem?_eq_getElem (by omega)]
  simpa using hz

/-- An array of whole numbers that came in. -/
theorem open_arr {n : Nat} {v : Value} {d : DataW H} {p : List MemPlace} {r : Reach} {b0 : Nat} (ht : P.underlying t = some (.array n e)) (he : P.underlying e = some (.int k)) (hce : P.cellsOf e = 1) (hct : P.cellsOf t = n)
    (hok : Value.okWide P w r b0 t v) (h : DataW.Trod enc P w base spare held t v d p) : ∃ zs : List Int, zs.length = n ∧ v = .agg (zs.map (Value.int k)).toArray ∧ ∀ z ∈ zs, (Lit.int k z).wf = true := by
  obtain ⟨cs, rfl, hcs⟩ : ∃ cs, v = .agg cs ∧ cs.size = P.cellsOf t := by
    simp only [Value.okWide, ht] at hok
    obtain ⟨cs, h1, h2, _⟩ := hok
    exact ⟨cs, h1, h2⟩
  obtain ⟨fuel, hf⟩ := h
  obtain ⟨zs, h1, h2, h3⟩ := arr_ints ht he hce hct hf
  refine ⟨zs, h1, ?_, h3⟩
  congr 1
  have : cs.toList = zs.map (Value.int k) := by simpa [Value.cells] using h2
  rw [← this]
end
theorem len2 {α : Type} {l : List α} (h : l.length = 2) : ∃ a b, l = [a, b] := by
  match l, h with
  | [a, b], _ => exact ⟨a, b, rfl⟩
theorem len3 {α : Type} {l : List α} (h : l.length = 3) : ∃ a b c, l = [a, b, c] := by
  match l, h with
  | [a, b, c], _ => exact ⟨a, b, c, rfl⟩
theorem len4 {α : Type} {l : List α} (h : l.length = 4) : ∃ a b c d, l = [a, b, c, d] := by
  match l, h with
  | [a, b, c, d], _ => exact ⟨a, b, c, d, rfl⟩
end Go.Proofs.Ytjfpcggpdbkjgaa
