/-
  Layer 4 (conv): products by transforms.
-/
import Derived.Test.YtobailigphmopaaWConv5
import Derived.Test.YtobailigphmopaaZeros
import Derived.Deep.RegionLaw
import Derived.Deep.AppendLies
import Derived.Laws.AppendOwnNone
namespace Go.Proofs.Ytobailigphmopaa
open Go.RowKit BG
attribute [local go_sem ↓] Go.wp_at_zero Go.wp_at_succ
set_option linter.unusedVariables false

theorem step_append_zeros {P : Program} {w : World} {ops : Array Oper} {o : Oper} {a : Act} {K : Act → World → Prop} {Q : Exit → Act → World → Prop} {E : Prop} (hgd : o.guard = none) (s x : Operand) (t tn : TypeId)
    (ho : o.op = .call { callee := .builtin .append, args := #[s, x], argTypes := #[t, tn] })
    (base : Nat) (e : TypeId) (i : TypeInfo) (z : Value) (kq kn : IntKind) (ht : P.underlying t = some (.slice e)) (htn : P.underlying tn = some (.int kn)) (hi : P.info? e = some i) (hz : i.zero = some z)
    (hsize : i.size = 1) (hby : i.bytes = 8) (hzc : z.cells = #[z]) (h1z : z.oneCell' = true) (g n cap : Nat) (xs : List Value) (hs : a.eval s = .slice (some ⟨g, 0, none⟩) n cap) (hown : w.ownsRow base e 1 (.slice (some ⟨g, 0, none⟩) n cap) n xs) (hb : base ≤ w.heap.size) (k : Nat) (hx : a.eval x = .int kq k) (hk : n + k ≤ 1000000)
    (h : ∀ g' cap' w', w'.ownsRow base e 1 (.slice (some ⟨g', 0, none⟩) (n + k) cap') (n + k) (xs ++ List.replicate k z) → w.grownBy w' (some g) → K (a.put o.dst (.slice (some ⟨g', 0, none⟩) (n + k) cap')) w') :
    if Region.wanted o (yielded ops a.tmps) = true then Oper.wp P o a w K Q else E := by
  obtain ⟨g', cap', w', hr, h2, h3⟩ := run_append_zeros (P := P) (w := w) base t tn o.type e i z kq kn ht htn hi hz hsize hby hzc h1z g n cap xs hown hb k hk
  have hw : Region.wanted o (yielded ops a.tmps) = true := by simp [Region.wanted, hgd]
  rw [if_pos hw]
  unfold Oper.wp execOp
  simp only [ho, resolve, invoke, builtin, Sem.run_bind, Sem.run_pure, Result.andThen_ok, List.map_toArray, List.map_cons, List.map_nil, hs, hx, hr]
  exact h g' cap' w' h2 h3
theorem rd_cells {w : World} {k : IntKind} {ad : Addr} {xs : List Int} (h : Rd k w (some ad) xs) : ∀ (j : Nat) u, (xs.map (Value.int k))[j]? = some u → w.cell? (ad.add j) = some u := by
  intro j u hj
  rw [List.getElem?_map, Option.map_eq_some_iff] at hj
  obtain ⟨z, hz, rfl⟩ := hj
  have hlt := (List.getElem?_eq_some_iff.1 hz).1
  obtain ⟨ad', e, hc⟩ := h.2 (by omega)
  cases e
  rw [hc j hlt, nth_lt hlt, (List.getElem?_eq_some_iff.1 hz).2]
theorem cells_one (k : IntKind) (xs : List Int) : ∀ u ∈ xs.map (Value.int k), u.oneCell' = true := by
  intro u hu
  rw [List.mem_map] at hu
  obtain ⟨z, _, rfl⟩ := hu
  rfl
theorem wide_is (xs : List Int) {size : Nat} (h : xs.length ≤ size) : xs.map (Value.int .u64) ++ List.replicate (size - xs.length) (Value.int .u64 0) = (widev xs size).map (Value.int .u64) := by
  refine List.ext_getElem (by simp [widev_length]; omega) fun j h1 h2 => ?_
  rw [List.getElem_map, ← nth_lt (by simpa using h2)]
  have hj : j < size := by simpa [widev_length] using h2
  unfold widev
  rw [nth_mk hj]
  by_cases hlt : j < xs.length
  · rw [List.getElem_append_left (by simpa using hlt), if_pos hlt, List.getElem_map, nth_lt hlt]
  · rw [List.getElem_append_right (by simpa using hlt), if_neg hlt, List.getElem_replicate]
end Go.Proofs.Ytobailigphmopaa
