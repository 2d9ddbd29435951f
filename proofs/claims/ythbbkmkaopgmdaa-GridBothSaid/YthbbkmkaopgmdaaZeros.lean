/-
  append(s, make([]T, k)...) onto a row that the call owns: with room or without, the row and k noughts.
-/
import Derived.Test.YthbbkmkaopgmdaaSl
import Derived.Lib.AppendZerosOnto
import Derived.ArgAppend
namespace Go.Proofs.Ythbbkmkaopgmdaa
open Go.RowKit
set_option linter.unusedVariables false

theorem zeroCells_one (z : Value) (k : Nat) : Builtin.zeroCells #[z] k = (List.replicate k z).toArray := by
  unfold Builtin.zeroCells
  apply Array.ext
  · simp
  · intro i h1 h2
    simp [Nat.mod_one]
theorem run_append_zeros {P : Program} {w : World} (base : Nat) (t tn ty e : TypeId) (i : TypeInfo) (z : Value) (kq kn : IntKind) (ht : P.underlying t = some (.slice e)) (htn : P.underlying tn = some (.int kn)) (hi : P.info? e = some i) (hz : i.zero = some z)
    (hsize : i.size = 1) (hby : i.bytes = 8) (hzc : z.cells = #[z]) (h1z : z.oneCell' = true) (g n cap : Nat) (xs : List Value) (hown : w.ownsRow base e 1 (.slice (some ⟨g, 0, none⟩) n cap) n xs) (hb : base ≤ w.heap.size) (k : Nat) (hk : n + k ≤ 1000000) :
    ∃ g' cap' w', (Builtin.append_ #[t, tn] ty #[.slice (some ⟨g, 0, none⟩) n cap, .int kq k]).run P w = .ok (.slice (some ⟨g', 0, none⟩) (n + k) cap') w' ∧
      w'.ownsRow base e 1 (.slice (some ⟨g', 0, none⟩) (n + k) cap') (n + k) (xs ++ List.replicate k z) ∧ w.grownBy w' (some g) := by
  have hw : IntKind.i64.wrap (k : Int) = k := by rw [IntKind.wrap_i64]; omega
  have hneg : ¬ ((k : Int) < 0) := by omega
  have hlx : xs.length = n := by have := hown.1; omega
  have h48i : ¬ (281474976710656 < (k : Int) * (8 : Int)) := by omega
  rcases Nat.lt_or_ge cap (n + k) with hroom | hroom
  · have hg : cap < n + k := hroom
    have h0 : 0 < k := by
      rcases hown.2 with ⟨h, _⟩ | ⟨g', cap', cur, h, _, _, h1, _⟩
      · cases h
      · simp only [Value.slice.injEq] at h; omega
    have hold : (Builtin.firstCells i.size n (.slice (some ⟨g, 0, none⟩) n cap)).run P w.drew = .ok xs.toArray w.drew :=
      run_firstCells_some (P := P) w.drew i.size n ⟨g, 0, none⟩ n cap xs (by rw [hsize]; omega) (fun j u hj => World.ownsRow.cells hown (g := g) rfl j u hj)
    have hr := Lib.run_append_grow_zeros (P := P) w t tn ty e i z kq kn ht htn hi hz (some ⟨g, 0, none⟩) n cap xs hold k h0 (by omega) hg (by omega) (by rw [hby]; omega) (growslice_fits hg (by rw [hby]; omega))
    have hge := grownCap_ge w (n + k) cap e
    have hcm : grownCap w (n + k) cap e ≤ maxLen := grownCap_le_maxLen w (n + k) cap e (by unfold maxLen; omega)
    refine ⟨_, _, _, hr, ⟨by simp [hlx], .inr ⟨w.heap.size, _, _, rfl, hb, heap_alloc_new w.drew _, hge, hcm, ?_, ?_⟩⟩, ⟨rfl, rfl, rfl, by simp, fun k hk _ => _root_.Go.heap_alloc_old w.drew _ hk⟩⟩
    · rw [hzc, zeroCells_one, zeroCells_one]
      simp only [Array.size_append, List.size_toArray, List.length_replicate, hlx]
      omega
    · rw [hzc, zeroCells_one, zeroCells_one]
      simp only [Array.toList_append]
      have hlen : (xs ++ List.replicate k z).length = (n + k) * 1 := by simp [hlx]
      rw [← hlen]
      exact List.take_left
  · rcases hown.2 with ⟨h, _⟩ | ⟨g', cap', cur, h, hbg, hg, hnc, hcm, hcs, htake⟩
    · cases h
    · simp only [Value.slice.injEq, Option.some.injEq, Addr.mk.injEq, and_true, true_and] at h
      obtain ⟨rfl, rfl⟩ := h
      have hst := run_storeCells_at P g n e (List.replicate k z) 0 cur w hg (by simp; omega) (fun u hu => by rw [(List.mem_replicate.1 hu).2]; exact h1z)
      simp only [Nat.add_zero, List.length_replicate] at hst
      have hr : (Builtin.append_ #[t, tn] ty #[.slice (some ⟨g, 0, none⟩) n cap, .int kq k]).run P w = .ok (.slice (some ⟨g, 0, none⟩) (n + k) cap) (w.setRow g (cur.toList.take n ++ List.replicate k z ++ cur.toList.drop (n + k)).toArray) := by
        by_cases h0 : k = 0
        · subst h0
          have hw0 : IntKind.i64.wrap (0 : Int) = 0 := by rw [IntKind.wrap_i64]; decide
          have hr0 : n ≤ cap := hroom
          simp [storeCells] at hst
          simp [Builtin.append_, run_underlying ht, run_underlying htn, sizeOf, typeInfo, zeroValue, hi, hz, asInt, asIntOf, hw0, hr0, Addr.add_lit, storeCells]
          exact hst
        · simp [Builtin.append_, run_underlying ht, run_underlying htn, sizeOf, typeInfo, zeroValue, hi, hz, asInt, asIntOf, hw, hneg, hsize, hby, h48i, h0, hroom, hzc, zeroCells_one, Addr.add_lit, hst]
      refine ⟨_, _, _, hr, ⟨by simp [hlx], .inr ⟨g, cap, _, rfl, hbg, setRow_heap w g cur _ e _ hg, hroom, hcm, ?_, ?_⟩⟩, ⟨rfl, rfl, rfl, by simp, fun k hk hne => setRow_other w g k _ (fun e => hne (by simp [e]))⟩⟩
      · simp only [List.size_toArray, List.length_append, List.length_take, List.length_drop, Array.length_toList, List.length_replicate]
        omega
      · have e1 : cur.toList.take n = xs := by rw [← htake]; simp
        rw [e1]
        have hlen : (xs ++ List.replicate k z).length = (n + k) * 1 := by simp [hlx]
        rw [← hlen]
        exact List.take_left
end Go.Proofs.Ythbbkmkaopgmdaa
