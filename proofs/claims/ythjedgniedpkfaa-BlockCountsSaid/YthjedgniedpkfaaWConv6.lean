/-
  Layer 4 (conv): products by transforms.
-/
import Derived.Test.YthjedgniedpkfaaWConv5
import Derived.Test.YthjedgniedpkfaaZeros
import Derived.Deep.RegionLaw
import Derived.Deep.AppendLies
import Derived.Laws.AppendOwnNone
namespace Go.Proofs.Ythjedgniedpkfaa
open Go.RowKit BG
attribute [local go_sem ↓] Go.wp_at_zero Go.wp_at_succ
set_option linter.unusedVariables false

theorem step_append_zeros {P : Program} {w : World} {ops : Array Oper} {o : Oper} {a : Act} {K : Act → World → Prop} {Q : Exit → Act → World → Prop} {E : Prop} (hgd : o.guard = none) (s x : Operand) (t tn : TypeId)
    (ho : o.op = .call { callee := .builtin .append, args := #[s, x], argTypes := #[t, tn] })
    (base : Nat) (e : TypeId) (i : TypeInfo) (z : Value) (kq kn : IntKind) (ht : P.underlying t = some (.slice e)) (htn : P.underlying tn = some (.int kn)) (hi : P.info? e = some i) (hz : i.zero = some z)
    (hsize : i.size = 1) (hby : i.bytes = 8) (hzc : z.cells = #[z]) (h1z : z.oneCell' = true) (g n cap : Nat) (xs : List Value) (hs : a.eval s = .slice (some ⟨g, 0, none⟩) n cap) (hown : w.ownsRow base e 1 (.slice (some ⟨g, 0, none⟩) n cap) n xs) (hb : base ≤ w.heap.size) (k : Nat) (hx : a.eval x = .int kq k) (hk : n + k ≤ 1000000)
    (h : ∀ g' cap' w', w'.ownsRow base e 1 (.slice (some ⟨g', 0, none⟩) (n + k) cap') (n + k) (xs ++ List.replicate k z) → w.grownBy w' (some g) → K (a.put o.dst (.slice (some ⟨g', 0, none⟩) (n + k) cap')) w') :
    if Region.wanted o (yielded ops a.tmps) = true then Oper.wp P o a w K Q else E := by
  obtain ⟨g', cap', w', hr, h2, h3⟩ := run_append_zeros (P := P) (w := w) base t tn o.type e i z kq kn ht htn hi hz hsize hby hzc h1z g n cap xs hown hb k hk
  have hw : Region.wanted o (yielded ops a.tmps) = true := by simp [Region.wanted, hgd]
  rw [if_pos hw]
  unfold Oper.wp execOp
  simp only [ho, resolve, invoke, builtin, Sem.run_bind, Sem.run_pure, Result.andThen_ok, List.map_toArray, List.map_cons, List.map_nil, hs, hx, hr]
  exact h g' cap' w' h2 h3
theorem rd_cells {w : World} {k : IntKind} {ad : Addr} {xs : List Int} (h : Rd k w (some ad) xs) : ∀ (j : Nat) u, (xs.map (Value.int k))[j]? = some u → w.cell? (ad.add j) = some u := by
  intro j u hj
  rw [List.getElem?_map, Option.map_eq_some_iff] at hj
  obtain ⟨z, hz, rfl⟩ := hj
  have hlt := (List.getElem?_eq_some_iff.1 hz).1
  obtain ⟨ad', e, hc⟩ := h.2 (by omega)
  cases e
  rw [hc j hlt, nth_lt hlt, (List.getElem?_eq_some_iff.1 hz).2]
theorem cells_one (k : IntKind) (xs : List Int) : ∀ u ∈ xs.map (Value.int k), u.oneCell' = true := by
  intro u hu
  rw [List.mem_map] at hu
  obtain ⟨z, _, rfl⟩ := hu
  rfl
theorem wide_is (xs : List Int) {size : Nat} (h : xs.length ≤ size) : xs.map (Value.int .u64) ++ List.replicate (size - xs.length) (Value.int .u64 0) = (widev xs size).map (Value.int .u64) := by
  refine List.ext_getElem (by simp [widev_length]; omega) fun j h1 h2 => ?_
  rw [List.getElem_map, ← nth_lt (by simpa using h2)]
  have hj : j < size := by simpa [widev_length] using h2
  unfold widev
  rw [nth_mk hj]
  by_cases hlt : j < xs.length
  · rw [List.getElem_append_left (by simpa using hlt), if_pos hlt, List.getElem_map, nth_lt hlt]
  · rw [List.getElem_append_right (by simpa using hlt), if_neg hlt, List.getElem_replicate]
set_option maxHeartbeats 4000000 in
theorem clo_wide_c (ad : Addr) (cap : Nat) (xs : List Int) (hx0 : 0 < xs.length) (B size : Nat) (hsz : xs.length ≤ size) (hmax : size ≤ 4096) (w : World) (hr : Rd .u64 w (some ad) xs) (hc : w.cell? ⟨B, 0, none⟩ = some (.int .i64 (size : Nat))) :
    Calls Try.prog 49 #[.slice (some ad) xs.length cap, .pointer (some ⟨B, 0, none⟩)] w fun e w' => ∃ v, e = .returned v ∧ Own .u64 40 w.heap.size w' v (widev xs size) ∧ Kept w w' := by
  obtain ⟨i1, hif1, hy0, hy1, hy2⟩ := info_parts info_u64
  have h0 : (w.alloc (.cells #[] 40)).ownsRow w.heap.size 40 1 (.slice (some ⟨w.heap.size, 0, none⟩) 0 0) 0 [] := World.ownsRow_lit w #[] 0 (Nat.le_refl _) (by decide) rfl
  have hk0 : Kept w (w.alloc (.cells #[] 40)).drew := kept_drew (kept_alloc (kept_refl w) _)
  have c1 : w.drew.cell? ⟨B, 0, none⟩ = some (.int .i64 (size : Nat)) := hc
  have c2 : (w.alloc (.cells #[] 40)).drew.cell? ⟨B, 0, none⟩ = some (.int .i64 (size : Nat)) := kept_cell hk0 hc
  have hBl := World.block_lt_of_cell? w _ hc
  have hwid := wide_is xs hsz
  obtain ⟨d, hd⟩ : ∃ d, d = size - xs.length := ⟨_, rfl⟩
  rw [← hd] at hwid
  have hsub : (size : Int) - (xs.length : Int) = (d : Int) := by omega
  have hwr : IntKind.i64.wrap (d : Int) = (d : Int) := by rw [IntKind.wrap_i64]; omega
  have hds : xs.length + d = size := by omega
  have HDS := Lib.hid hds
  clear hds hd
  generalize hw' : widev xs size = wv at *
  have HW := Lib.hid hwid
  have hwl : wv.length = size := by rw [← hw']; exact widev_length _ _
  clear hwid hw'
  go_enter Try.func49, Try.ntmps49
  go_wp2_with fail
  go_region_law (first | (refine step_append_lies _ (by rfl) _ _ _ (by rfl) w.heap.size 40 i1 _ 1 8 Try.underlying22 hif1 hy0 hy1 hy2 rfl (by omega) (.slice (some ⟨w.heap.size, 0, none⟩) 0 0) 0 [] (by rfl) h0.drew ad xs.length cap (xs.map (Value.int .u64)) (by rfl) (by rw [List.length_map]; omega) (rd_cells (hr.kept hk0)) (cells_one _ _) hx0 (by unfold maxLen; omega) (by omega) (by simp) (w.heap.size + 1) (by simp) ?_; intro g1 cap1 w6 hown6 hgrow6 hat6 hlt6; rw [Nat.zero_add, List.nil_append] at hown6; have hB6 : w6.cell? ⟨B, 0, none⟩ = some (.int .i64 (size : Nat)) := kept_cell (kept_grown hk0 h0.drew (Nat.le_refl _) hgrow6) hc) | (refine step_append_zeros (by rfl) _ _ _ _ (by rfl) w.heap.size 40 i1 (.int .u64 0) .i64 .i64 Try.underlying22 Try.underlying3 hif1 hy0 hy1 hy2 rfl rfl _ _ _ _ (by rfl) hown6 (by have := hgrow6.size; simp at this ⊢; omega) d (by rfl) (by have := HDS.out; omega) ?_; intro g7 cap7 w7 hown7 hgrow7))
  all_goals (
    have R : Own .u64 40 w.heap.size w7 (.slice (some ⟨g7, 0, none⟩) (xs.length + d) cap7) wv := by
      unfold Own
      rw [hwl, ← HDS.out, ← HW.out]
      exact hown7
    have K7 := kept_grown (kept_grown hk0 h0.drew (Nat.le_refl _) hgrow6) hown6 (Nat.le_refl _) hgrow7
    clear hown7 hgrow7 hgrow6 hown6 c1 c2 hB6
    go_wp2_with fail
    exact bodyPost_ret (v := .slice (some ⟨g7, 0, none⟩) (xs.length + d) cap7) (by simp [results, Try.results49, go_sem]) rfl ⟨_, rfl, R, K7⟩)
end Go.Proofs.Ythjedgniedpkfaa
