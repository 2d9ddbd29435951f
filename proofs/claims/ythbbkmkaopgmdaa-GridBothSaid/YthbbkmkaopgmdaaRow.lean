/-
  What the rows of this seat's statements need: how arrays of whole numbers and slices of whole numbers are opened.
-/
import Derived.SizedLaws
import Derived.ChangeSlices
import Derived.OpenShut
import Derived.ProofKit
import Derived.Test.YthbbkmkaopgmdaaSl
import Derived.Deep.Slices
set_option linter.unusedVariables false
namespace Go.Proofs.Ythbbkmkaopgmdaa
open Go.ChangeShapes Go.WideShapes Go.ChangeAt Go.RowKit
section
variable {H : Type} {enc : TypeId × Value → H} {P : Program} {w : World} {base : Nat} {spare : Nat → Bool} {held : Bool} {fuel : Nat} {t e : TypeId} {k : IntKind}

def numOf' : Value → Int | .int _ z => z | _ => 0

theorem cells_ints {n : Nat} {cs : List Value} (hl : cs.length = n) (each : ∀ i, i < n → ∃ z, cs[i]? = some (.int k z) ∧ (Lit.int k z).wf = true) :
    ∃ zs : List Int, zs.length = n ∧ cs = zs.map (Value.int k) ∧ ∀ z ∈ zs, (Lit.int k z).wf = true := by
  refine ⟨cs.map numOf', by simp [hl], ?_, ?_⟩
  · refine List.ext_getElem? fun i => ?_
    by_cases hi : i < n
    · obtain ⟨z, hz, _⟩ := each i hi
      simp [hz, numOf']
    · rw [List.getElem?_eq_none (by omega), List.getElem?_eq_none (by simp; omega)]
  · intro z hz
    rw [List.mem_map] at hz
    obtain ⟨v, hv, rfl⟩ := hz
    obtain ⟨i, hi⟩ := List.getElem?_of_mem hv
    obtain ⟨z, hz, hwz⟩ := each i (by have := (List.getElem?_eq_some_iff.1 hi).1; omega)
    rw [hi] at hz
    cases hz
    exact hwz

theorem arr_ints {n : Nat} {cs : List Value} {x : DataW H × List MemPlace} (ht : P.underlying t = some (.array n e)) (he : P.underlying e = some (.int k)) (hce : P.cellsOf e = 1) (hct : P.cellsOf t = n)
    (h : DataW.trod enc P w base spare held fuel t cs = some x) : ∃ zs : List Int, zs.length = n ∧ cs = zs.map (Value.int k) ∧ ∀ z ∈ zs, (Lit.int k z).wf = true := by
  obtain ⟨xs, m, _, _, hlen, hxs, hel⟩ := DataW.trod_array ht h
  rw [hct] at hlen
  refine cells_ints hlen fun i hi => ?_
  have h1 := hel i hi
  rw [hce, Nat.mul_one, List.getElem?_eq_getElem (by omega)] at h1
  rw [List.drop_eq_getElem_cons (by omega), List.take_succ_cons, List.take_zero] at h1
  obtain ⟨z, hz, _, hwz⟩ := DataW.trod_int he h1
  refine ⟨z, ?_, hwz⟩
  rw [List.getElem?_eq_getElem (by omega)]
  simpa using hz

/-- An array of whole numbers that came in. -/
theorem open_arr {n : Nat} {v : Value} {d : DataW H} {p : List MemPlace} {r : Reach} {b0 : Nat} (ht : P.underlying t = some (.array n e)) (he : P.underlying e = some (.int k)) (hce : P.cellsOf e = 1) (hct : P.cellsOf t = n)
    (hok : Value.okWide P w r b0 t v) (h : DataW.Trod enc P w base spare held t v d p) : ∃ zs : List Int, zs.length = n ∧ v = .agg (zs.map (Value.int k)).toArray ∧ ∀ z ∈ zs, (Lit.int k z).wf = true := by
  obtain ⟨cs, rfl, hcs⟩ : ∃ cs, v = .agg cs ∧ cs.size = P.cellsOf t := by
    simp only [Value.okWide, ht] at hok
    obtain ⟨cs, h1, h2, _⟩ := hok
    exact ⟨cs, h1, h2⟩
  obtain ⟨fuel, hf⟩ := h
  obtain ⟨zs, h1, h2, h3⟩ := arr_ints ht he hce hct hf
  refine ⟨zs, h1, ?_, h3⟩
  congr 1
  have : cs.toList = zs.map (Value.int k) := by simpa [Value.cells] using h2
  rw [← this]
end
section
variable {H : Type} {enc : TypeId × Value → H} {P : Program} {w : World} {base : Nat} {held : Bool} {t e : TypeId} {k : IntKind}
/-- A slice of whole numbers that came in: what it reads as, and how large it may be. -/
theorem open_sl {v : Value} {d : DataW H} {p : List MemPlace} {r : Reach} {b0 : Nat} {ts : List TypeId} {ds : List (DataW H)} (ht : P.underlying t = some (.slice e)) (he : P.underlying e = some (.int k)) (hce : P.cellsOf e = 1)
    (hsz : (DataW.weightsEach P ts ds).all (· ≤ reachBytes) = true) {j : Nat} (htj : ts[j]? = some t) (hdj : ds[j]? = some d)
    (hok : Value.okWide P w r b0 t v) (h : DataW.Trod enc P w base (fun _ => true) held t v d p) :
    ∃ (A : Option Addr) (cap : Nat) (xs : List Int), v = .slice A xs.length cap ∧ xs.length * P.bytesOf e ≤ reachBytes ∧ Rd k w A xs ∧ (∀ z ∈ xs, (Lit.int k z).wf = true) ∧ (A = none → cap = 0) ∧ xs.length ≤ cap := by
  obtain ⟨A, len, cap, rfl⟩ := okWide_slice ht hok
  obtain ⟨fuel, hf⟩ := h
  rcases open_ints ht he hce hf with ⟨hcs, hx⟩ | ⟨a, len', cap', zs, hcs, _, hl, hm, hz, hx, hc, hw⟩
  · have : A = none ∧ len = 0 ∧ cap = 0 := by simpa [Value.cells] using hcs
    obtain ⟨rfl, rfl, rfl⟩ := this
    exact ⟨none, 0, [], rfl, by simp, Rd.nil _ _ _, by simp, fun _ => rfl, by simp⟩
  · have : A = some a ∧ len = len' ∧ cap = cap' := by simpa [Value.cells] using hcs
    obtain ⟨rfl, rfl, rfl⟩ := this
    simp only [if_true] at hz
    have hd : d = .slice (lits k (zs.take len)) (lits k (zs.drop len)) := congrArg Prod.fst hx
    have hb := sized_slice hsz htj (hd ▸ hdj) ht
    have hL : (zs.take len).length = len := by rw [List.length_take]; omega
    refine ⟨some a, cap, zs.take len, by rw [hL], ?_, ⟨by rw [hL]; unfold maxLen at hm; omega, fun _ => ⟨a, rfl, fun j hj => ?_⟩⟩, fun z hz' => hw z (List.mem_of_mem_take hz'), fun h => (by cases h), (by rw [hL]; exact hl)⟩
    · refine Nat.le_trans (Nat.mul_le_mul_right _ ?_) hb
      simp only [lits, List.length_map]
      omega
    · rw [hL] at hj
      rw [hc j (by omega), nth_take hj]
      rfl
end
section
variable {H : Type} {enc : TypeId × Value → H} {P : Program} {w : World} {base : Nat} {held : Bool} {t e f : TypeId} {k : IntKind}
theorem add_two (a : Addr) (m n : Nat) : (a.add m).add n = a.add (m + n) := by
  unfold Addr.add
  by_cases h : m = 0
  · subst h; simp
  · by_cases h' : n = 0
    · subst h'; simp [h]
    · simp [h, h']; omega
/-- A slice of arrays of whole numbers that came in: the numbers, one behind the other. -/
theorem open_pts {c : Nat} {v : Value} {d : DataW H} {p : List MemPlace} {r : Reach} {b0 : Nat} {ts : List TypeId} {ds : List (DataW H)} (ht : P.underlying t = some (.slice e)) (he : P.underlying e = some (.array c f)) (hf : P.underlying f = some (.int k)) (hcf : P.cellsOf f = 1) (hce : P.cellsOf e = c) (hby : c ≤ P.bytesOf e) (hc0 : 0 < c)
    (hsz : (DataW.weightsEach P ts ds).all (· ≤ reachBytes) = true) {j : Nat} (htj : ts[j]? = some t) (hdj : ds[j]? = some d)
    (hok : Value.okWide P w r b0 t v) (h : DataW.Trod enc P w base (fun _ => true) held t v d p) :
    ∃ (A : Option Addr) (cap n : Nat) (xs : List Int), v = .slice A n cap ∧ xs.length = c * n ∧ n * P.bytesOf e ≤ reachBytes ∧ Rd k w A xs ∧ (∀ z ∈ xs, (Lit.int k z).wf = true) ∧ (A = none → n = 0 ∧ cap = 0) := by
  obtain ⟨A, len, cap, rfl⟩ := okWide_slice ht hok
  obtain ⟨fuel, hfu⟩ := h
  rcases Go.Deep.open_slice ht hfu with ⟨hcs, hx⟩ | ⟨a, len', cap', m, n, D, Pl, hcs, _, hl, hm, hmm, hx, hel⟩
  · have : A = none ∧ len = 0 ∧ cap = 0 := by simpa [Value.cells] using hcs
    obtain ⟨rfl, rfl, rfl⟩ := this
    exact ⟨none, 0, 0, [], rfl, by simp, by simp, Rd.nil _ _ _, by simp, fun _ => ⟨rfl, rfl⟩⟩
  · have : A = some a ∧ len = len' ∧ cap = cap' := by simpa [Value.cells] using hcs
    obtain ⟨rfl, rfl, rfl⟩ := this
    simp only [if_true] at hmm
    have hd : d = .slice ((List.range len).map D) ((List.range (m - len)).map fun j => D (len + j)) := congrArg Prod.fst hx
    have hb := sized_slice hsz htj (hd ▸ hdj) ht
    simp only [List.length_map, List.length_range] at hb
    have hb' : len * P.bytesOf e ≤ reachBytes := Nat.le_trans (Nat.mul_le_mul_right _ (by omega)) hb
    have hlc : c * len ≤ reachBytes := by rw [Nat.mul_comm]; exact Nat.le_trans (Nat.mul_le_mul_left _ hby) hb'
    have each : ∀ i, ∃ zs : List Int, i < len → zs.length = c ∧ (∀ q, q < c → w.cell? (a.add (i * c + q)) = some (.int k (nth zs q))) ∧ ∀ z ∈ zs, (Lit.int k z).wf = true := by
      intro i
      by_cases hi : i < len
      · obtain ⟨cs', h1, h2⟩ := hel i (by omega)
        rw [hce] at h1
        obtain ⟨_, hlen, hc⟩ := World.cells?_some h1
        obtain ⟨zs, z1, rfl, z3⟩ := arr_ints he hf hcf hce h2
        refine ⟨zs, fun _ => ⟨z1, fun q hq => ?_, z3⟩⟩
        rw [← add_two, hc q hq, List.getElem?_map, List.getElem?_eq_getElem (by omega), Option.map_some, nth_lt (by omega)]
      · exact ⟨[], fun h => absurd h hi⟩
    obtain ⟨F, hF⟩ := Classical.axiomOfChoice each
    have pd : ∀ p, p < c * len → p / c < len ∧ p % c < c ∧ p / c * c + p % c = p := fun p hp => ⟨Nat.div_lt_of_lt_mul hp, Nat.mod_lt _ hc0, Nat.div_add_mod' p c⟩
    refine ⟨some a, cap, len, mk (c * len) fun p => nth (F (p / c)) (p % c), rfl, mk_length _ _, hb', ⟨?_, fun _ => ⟨a, rfl, fun p hp => ?_⟩⟩, fun z hz => ?_, fun h => by cases h⟩
    · rw [mk_length]; unfold reachBytes at hlc; omega
    · rw [mk_length] at hp
      obtain ⟨p1, p2, p3⟩ := pd p hp
      have := (hF _ p1).2.1 _ p2
      rw [nth_mk hp]
      rwa [p3] at this
    · unfold mk at hz
      rw [List.mem_map] at hz
      obtain ⟨p, hp, rfl⟩ := hz
      obtain ⟨p1, p2, p3⟩ := pd p (List.mem_range.1 hp)
      obtain ⟨f1, _, f3⟩ := hF _ p1
      refine f3 _ ?_
      rw [nth_lt (by omega)]
      exact List.getElem_mem _
end
theorem len2 {α : Type} {l : List α} (h : l.length = 2) : ∃ a b, l = [a, b] := by
  match l, h with
  | [a, b], _ => exact ⟨a, b, rfl⟩
theorem len3 {α : Type} {l : List α} (h : l.length = 3) : ∃ a b c, l = [a, b, c] := by
  match l, h with
  | [a, b, c], _ => exact ⟨a, b, c, rfl⟩
theorem len4 {α : Type} {l : List α} (h : l.length = 4) : ∃ a b c d, l = [a, b, c, d] := by
  match l, h with
  | [a, b, c, d], _ => exact ⟨a, b, c, d, rfl⟩
end Go.Proofs.Ythbbkmkaopgmdaa
