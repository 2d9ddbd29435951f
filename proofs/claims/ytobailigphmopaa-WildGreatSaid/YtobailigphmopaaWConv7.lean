/-
  Layer 4 (conv): products by transforms.
-/
import Derived.Test.YtobailigphmopaaWConv6
namespace Go.Proofs.Ytobailigphmopaa
open Go.RowKit BG
attribute [local go_sem ↓] Go.wp_at_zero Go.wp_at_succ
set_option linter.unusedVariables false

theorem cycv_wide {k : Int} (hk : pr k ≠ 0) {L : Nat} (hL : L ≤ 12) {xs ys : List Int} (h : xs.length + ys.length ≤ 2 ^ L + 1) (hx : 0 < xs.length) (hy : 0 < ys.length) :
    cycv k (widev xs (2 ^ L)) (widev ys (2 ^ L)) = mk (2 ^ L) fun t => of k (cs (nth xs) (nth ys) xs.length ys.length t) := by
  have he : cycErr k (widev xs (2 ^ L)).length (widev ys (2 ^ L)).length = 0 := by
    rw [widev_length, widev_length]; unfold cycErr; rw [if_pos (amiss_pow hk hL), if_pos rfl]
  unfold cycv
  rw [if_pos he, widev_length]
  exact mk_congr fun t ht => by rw [widev_cyc h hx hy ht]
theorem own_set {w : World} {base n size : Nat} {e : TypeId} {v : Value} {xs : List Value} (h : w.ownsRow base e size v n xs) {p : Addr} (hp : p.block < base) (u : Value) : (w.setCell p u).ownsRow base e size v n xs :=
  World.ownsRow.kept h (⟨rfl, rfl, rfl, by simp, fun i hi hne => Below.heap_setCell w p u i fun e => hne (by rw [e])⟩ : w.grownBy (w.setCell p u) (some p.block)) (by
    cases e : v.ownBlock with
    | none => exact .inl rfl
    | some g => exact .inr fun e2 => by cases e2; have := (World.ownsRow.lt h _ e).1; omega)
theorem Own.form {k : IntKind} {e : TypeId} {base : Nat} {w : World} {v : Value} {xs : List Int} (h : Own k e base w v xs) : ∃ A c, v = .slice A xs.length c := by
  obtain ⟨A, c, e, _⟩ := h.rd
  exact ⟨A, c, e⟩
end Go.Proofs.Ytobailigphmopaa
