/-
  What the walks share: nothing that was there has changed; a block that is known whole; a region that draws its order, whose calls make blocks and change nothing.
-/
import Derived.Test.YthbbkmkaopgmdaaProg
import Derived.Test.YthbbkmkaopgmdaaRes
import Derived.WalkKit
import Derived.WalkSpells
import Derived.WalkLawsBesides
import Derived.Handy
import Derived.ScopeJumps
import Derived.WalkMore
import Derived.LoopN
import Derived.Lib.Hide
import Derived.Deep.RegionHeld3
import Derived.Deep.DrawnRows
import Derived.Deep.QuietTactic
import Derived.BigQuiet
set_option linter.unusedVariables false
namespace Go.Proofs.Ythbbkmkaopgmdaa
open Go.RowKit

/-- Nothing that was there has changed. -/
abbrev Kept (w w' : World) : Prop := Below w.heap.size w w'
theorem kept_refl (w : World) : Kept w w := Below.refl _ _
theorem kept_trans {w w1 w2 : World} (h : Kept w w1) (h' : Kept w1 w2) : Kept w w2 := h.trans (h'.mono h.size)
theorem kept_alloc {w w1 : World} (h : Kept w w1) (o : Obj) : Kept w (w1.alloc o) := h.alloc h.size o
theorem kept_drew {w w1 : World} (h : Kept w w1) : Kept w w1.drew := h.drew

theorem kept_drewN {w w1 : World} (h : Kept w w1) (n : Nat) : Kept w (w1.drewN n) := ⟨h.os, h.tape, h.output, h.size, h.block⟩
theorem kept_cell {w w1 : World} (h : Kept w w1) {a : Addr} {v : Value} (hc : w.cell? a = some v) : w1.cell? a = some v := (h.cell (World.block_lt_of_cell? w a hc)).trans hc

theorem kept_frozen {w w1 : World} (h : Kept w w1) {a : Addr} {v : Value} (hc : w.cell? a = some v) (hf : w.frozen? a = false) : w1.frozen? a = false := (h.frozen (World.block_lt_of_cell? w a hc)).trans hf

/-- What a contract says: it returns v; nothing that was there has changed. -/
def Ret (v : Value) (w : World) (e : Ending) (w' : World) : Prop := e = .returned v ∧ Kept w w'

/-! ### A region that draws its order: each operation gives one value in every world in which what was there is as it was -/
structure KW (w : World) where
  val : World
  kept : Kept w val
instance kwNonempty (w : World) : Nonempty (KW w) := ⟨⟨w, kept_refl w⟩⟩
theorem wp_region_kept {P : Program} {id : Nat} {Q : Exit → Act → World → Prop} {a : Act} {w : World} {l : List Oper} (hm : P.follows .mixedOrders = true) (hB : Region.lexB .any l.toArray = true)
    (h : wpQuiet P l.toArray (fun w' => ∃ s : KW w, w' = s.val) (fun a' => ∀ w', (∃ s : KW w, w' = s.val) → Q .normal a' w') l a) : (Code.region id l.toArray true).wp P Q a w :=
  wp_region_quiet (C := fun w' => ∃ s : KW w, w' = s.val) hm hB ⟨⟨w.drew, kept_drew (kept_refl w)⟩, rfl⟩ (by simpa using h)
theorem call_kept {P : Program} {f : FuncId} {args : Array Value} {w : World} {s : KW w} {v : Value} (h : Calls P f args s.val (Ret v s.val)) :
    Calls P f args s.val fun e w'' => e = .returned v ∧ ∃ s' : KW w, w'' = s'.val :=
  h.mono fun _ w'' ⟨he, hk⟩ => ⟨he, ⟨w'', kept_trans s.kept hk⟩, rfl⟩
theorem kw_cell {w : World} (s : KW w) {a : Addr} {v : Value} (hc : w.cell? a = some v) : s.val.cell? a = some v := kept_cell s.kept hc

/-! ### A block that is known whole -/
theorem blk_new (w : World) (o : Obj) : (w.alloc o).heap[w.heap.size]? = some o := by
  show (w.heap.push o)[w.heap.size]? = _
  simp
theorem blk_lt {w : World} {g : Nat} {o : Obj} (h : w.heap[g]? = some o) : g < w.heap.size := (Array.getElem?_eq_some_iff.1 h).1
theorem blk_alloc {w : World} {g : Nat} {o : Obj} (h : w.heap[g]? = some o) (o' : Obj) : (w.alloc o').heap[g]? = some o := (Below.heap_alloc w o' g (blk_lt h)).trans h
theorem blk_kept {w w1 : World} {g : Nat} {o : Obj} (hk : Kept w w1) (h : w.heap[g]? = some o) : w1.heap[g]? = some o := (hk.block g (blk_lt h)).trans h
theorem blk_set {w : World} {g : Nat} {t : TypeId} {cs : Array Value} (h : w.heap[g]? = some (.cells cs t (0, 0))) (i : Nat) (u : Value) : (w.setCell ⟨g, i, none⟩ u).heap[g]? = some (.cells (cs.setIfInBounds i u) t (0, 0)) := by
  simp [World.setCell, Array.getElem?_modify, h]
theorem blk_far {w : World} {g : Nat} {o : Obj} (h : w.heap[g]? = some o) {p : Addr} (hp : g ≠ p.block) (u : Value) : (w.setCell p u).heap[g]? = some o := (Below.heap_setCell w p u g hp).trans h
theorem blk_cell {w : World} {g : Nat} {t : TypeId} {cs : Array Value} (h : w.heap[g]? = some (.cells cs t (0, 0))) (i : Nat) : w.cell? ⟨g, i, none⟩ = cs[i]? := cell_of_row w g i cs t (0, 0) h
theorem blk_frozen {w : World} {g : Nat} {t : TypeId} {cs : Array Value} (h : w.heap[g]? = some (.cells cs t (0, 0))) (i : Nat) : w.frozen? ⟨g, i, none⟩ = false := by simp [World.frozen?, h]
theorem cell_far {w : World} {a : Addr} {v : Value} (hc : w.cell? a = some v) {p : Addr} (hp : a.block ≠ p.block) (u : Value) : (w.setCell p u).cell? a = some v :=
  (World.cell?_of_block (w := w) (Below.heap_setCell w p u a.block hp)).trans hc
theorem kept_set {w w1 : World} (h : Kept w w1) {p : Addr} (hp : w.heap.size ≤ p.block) (u : Value) : Kept w (w1.setCell p u) := h.setCell hp u
end Go.Proofs.Ythbbkmkaopgmdaa
