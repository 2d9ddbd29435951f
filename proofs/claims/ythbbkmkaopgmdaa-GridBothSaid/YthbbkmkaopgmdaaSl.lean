/-
  Slices of whole numbers in the walks: what one reads as; what the call itself has made; append, make.
-/
import Derived.Test.YthbbkmkaopgmdaaBase
import Derived.OwnWalk
import Derived.Laws.OwnMore
import Derived.Maps.AppendAt
set_option linter.unusedVariables false
namespace Go.Proofs.Ythbbkmkaopgmdaa
open Go.RowKit

/-- Number j of a list. -/
def nth (xs : List Int) (j : Nat) : Int := xs.getD j 0
theorem nth_lt {xs : List Int} {j : Nat} (h : j < xs.length) : nth xs j = xs[j] := by simp [nth, h]
theorem nth_append_l {xs ys : List Int} {j : Nat} (h : j < xs.length) : nth (xs ++ ys) j = nth xs j := by
  unfold nth; rw [List.getD_eq_getElem?_getD, List.getElem?_append_left h, ← List.getD_eq_getElem?_getD]
theorem nth_take {xs : List Int} {n j : Nat} (h : j < n) : nth (xs.take n) j = nth xs j := by
  unfold nth; rw [List.getD_eq_getElem?_getD, List.getElem?_take, if_pos h, ← List.getD_eq_getElem?_getD]
theorem nth_ext {xs ys : List Int} (hl : xs.length = ys.length) (h : ∀ j, j < xs.length → nth xs j = nth ys j) : xs = ys := by
  refine List.ext_getElem hl fun j h1 h2 => ?_
  have := h j h1
  rwa [nth_lt h1, nth_lt h2] at this
/-- The list of n numbers. -/
def mk (n : Nat) (f : Nat → Int) : List Int := (List.range n).map f
theorem mk_length (n : Nat) (f : Nat → Int) : (mk n f).length = n := by simp [mk]
theorem nth_mk {n : Nat} {f : Nat → Int} {j : Nat} (h : j < n) : nth (mk n f) j = f j := by simp [nth, mk, h]
theorem mk_succ (n : Nat) (f : Nat → Int) : mk (n + 1) f = mk n f ++ [f n] := by simp [mk, List.range_succ]
theorem mk_congr {n : Nat} {f g : Nat → Int} (h : ∀ j, j < n → f j = g j) : mk n f = mk n g := by
  unfold mk; exact List.map_congr_left fun j hj => h j (List.mem_range.1 hj)
theorem mk_nth (xs : List Int) : mk xs.length (nth xs) = xs := nth_ext (mk_length _ _) fun j hj => nth_mk (by simpa [mk_length] using hj)

/-- The slice at A reads as xs. -/
def Rd (k : IntKind) (w : World) (A : Option Addr) (xs : List Int) : Prop :=
  xs.length ≤ 9223372036854775807 ∧ (0 < xs.length → ∃ ad, A = some ad ∧ ∀ j, j < xs.length → w.cell? (ad.add j) = some (.int k (nth xs j)))
theorem Rd.at_ {k : IntKind} {w : World} {A : Option Addr} {xs : List Int} (h : Rd k w A xs) {j : Nat} (hj : j < xs.length) : ∃ ad, A = some ad ∧ w.cell? (ad.add j) = some (.int k (nth xs j)) := by
  obtain ⟨ad, e, hc⟩ := h.2 (by omega)
  exact ⟨ad, e, hc j hj⟩
theorem Rd.kept {k : IntKind} {w w1 : World} {A : Option Addr} {xs : List Int} (h : Rd k w A xs) (hk : Kept w w1) : Rd k w1 A xs :=
  ⟨h.1, fun hn => by
    obtain ⟨ad, e, hc⟩ := h.2 hn
    exact ⟨ad, e, fun j hj => kept_cell hk (hc j hj)⟩⟩
theorem Rd.nil (k : IntKind) (w : World) (A : Option Addr) : Rd k w A [] := ⟨by simp, fun h => absurd h (by simp)⟩

/-- A row of numbers that the call has made: the slice v owns it. -/
def Own (k : IntKind) (e : TypeId) (base : Nat) (w : World) (v : Value) (xs : List Int) : Prop := w.ownsRow base e 1 v xs.length (xs.map (Value.int k))
theorem Own.nil (k : IntKind) (e : TypeId) (base : Nat) (w : World) : Own k e base w (.slice none 0 0) [] := ⟨by simp, .inl ⟨rfl, rfl⟩⟩
theorem Own.rd {k : IntKind} {e : TypeId} {base : Nat} {w : World} {v : Value} {xs : List Int} (h : Own k e base w v xs) : ∃ A c, v = .slice A xs.length c ∧ xs.length ≤ c ∧ c ≤ 9223372036854775807 ∧ Rd k w A xs := by
  rcases Nat.eq_zero_or_pos xs.length with h0 | h0
  · rcases h.2 with ⟨rfl, _⟩ | ⟨g, cap, cur, rfl, _, _, h1, h2, _⟩
    · exact ⟨none, 0, by rw [h0], by omega, by omega, by omega, fun hp => absurd hp (by omega)⟩
    · exact ⟨_, cap, rfl, h1, by unfold maxLen at h2; omega, by omega, fun hp => absurd hp (by omega)⟩
  · rcases h.2 with ⟨_, h1⟩ | ⟨g, cap, cur, he, _, _, h1, h2, _⟩
    · omega
    · subst he
      refine ⟨_, cap, rfl, h1, by unfold maxLen at h2; omega, by unfold maxLen at h2; omega, fun _ => ⟨_, rfl, fun j hj => World.ownsRow.cells h (g := g) rfl j _ ?_⟩⟩
      rw [List.getElem?_map, List.getElem?_eq_getElem hj, Option.map_some, nth_lt hj]
theorem Own.kept {k : IntKind} {e : TypeId} {base : Nat} {w w1 : World} {v : Value} {xs : List Int} (h : Own k e base w v xs) (hk : Kept w w1) : Own k e base w1 v xs :=
  World.ownsRow.kept h (⟨hk.os, hk.tape, hk.output, hk.size, fun i hi _ => hk.block i hi⟩ : w.grownBy w1 none) (by cases v.ownBlock <;> simp)
theorem Own.less {k : IntKind} {e : TypeId} {base base' : Nat} {w : World} {v : Value} {xs : List Int} (h : Own k e base w v xs) (hb : base' ≤ base) : Own k e base' w v xs := by
  obtain ⟨h1, h2⟩ := h
  refine ⟨h1, ?_⟩
  rcases h2 with h2 | ⟨g, cap, cur, hv, hg, r⟩
  · exact .inl h2
  · exact .inr ⟨g, cap, cur, hv, Nat.le_trans hb hg, r⟩
theorem Own.appended {k : IntKind} {e : TypeId} {base n : Nat} {w1 : World} {v : Value} {f : Nat → Int} (h : w1.ownsRow base e 1 v (n + 1) ((mk n f).map (Value.int k) ++ [Value.int k (f n)])) : Own k e base w1 v (mk (n + 1) f) := by
  unfold Own
  rw [mk_length, mk_succ, List.map_append]
  exact h
theorem kept_grown {w0 w w1 : World} {base n s : Nat} {e : TypeId} {v : Value} {xs : List Value} (hk : Kept w0 w) (h : w.ownsRow base e s v n xs) (hb : w0.heap.size ≤ base) (hg : w.grownBy w1 v.ownBlock) : Kept w0 w1 :=
  hk.grown hg hk.size fun k hk' => Nat.le_trans hb (World.ownsRow.lt h k hk').1
theorem blk_rd {k : IntKind} {w : World} {g : Nat} {t : TypeId} {xs : List Int} (h : w.heap[g]? = some (.cells (xs.map (Value.int k)).toArray t (0, 0))) (hl : xs.length ≤ 9223372036854775807) : Rd k w (some ⟨g, 0, none⟩) xs := by
  refine ⟨hl, fun _ => ⟨_, rfl, fun j hj => ?_⟩⟩
  have := blk_cell h j
  have e : (⟨g, 0, none⟩ : Addr).add j = ⟨g, j, none⟩ := by unfold Addr.add; split <;> simp_all
  rw [e, this, List.getElem?_toArray, List.getElem?_map, List.getElem?_eq_getElem hj, Option.map_some, nth_lt hj]
theorem blk_new1 (w : World) (o o' : Obj) : ((w.alloc o).alloc o').heap[w.heap.size + 1]? = some o' := by
  have := blk_new (w.alloc o) o'
  rwa [World.size_alloc] at this
theorem blk_new2 (w : World) (o o' o'' : Obj) : (((w.alloc o).alloc o').alloc o'').heap[w.heap.size + 1 + 1]? = some o'' := by
  have := blk_new ((w.alloc o).alloc o') o''
  rwa [World.size_alloc, World.size_alloc] at this
end Go.Proofs.Ythbbkmkaopgmdaa
