/-
  Layer 5 (block): the places at which blocks begin: the iterator.
-/
import Derived.Test.YthbbkmkaopgmdaaBlkP
import Derived.Test.YthbbkmkaopgmdaaBridge
import Derived.Shelf.Abstract
import Derived.Shelf.RegionOpen
import Derived.WalkKit
namespace Go.Proofs.Ythbbkmkaopgmdaa
open Go.RowKit BG
attribute [local go_sem] Oper.semAt_some
attribute [local go_sem ↓] run_min_at
set_option linter.unusedVariables false

abbrev BI (NB : Nat) := { q : Nat // q < NB }
def firstB (NB q : Nat) : List (BI NB) := (List.range q).filterMap fun i => if h : i < NB then some ⟨i, h⟩ else none
theorem firstB_succ {NB q : Nat} (h : q < NB) : firstB NB (q + 1) = firstB NB q ++ [⟨q, h⟩] := by
  unfold firstB
  rw [List.range_succ, List.filterMap_append]
  simp [h]
theorem firstB_map {NB : Nat} : ∀ q, q ≤ NB → (firstB NB q).map (fun x => x.1) = List.range q := by
  intro q
  induction q with
  | zero => intro _; rfl
  | succ q ih => intro h; rw [firstB_succ (show q < NB by omega), List.map_append, ih (by omega), List.range_succ]; rfl
theorem firstB_length {NB q : Nat} (h : q ≤ NB) : (firstB NB q).length = q := by
  have := congrArg List.length (firstB_map q h)
  simpa using this
/-- What a round keeps for the iterator: its two boxes. -/
def KpB (B1 B2 : Nat) (W W' : World) : Prop := W'.heap[B1]? = W.heap[B1]? ∧ W'.heap[B2]? = W.heap[B2]?
theorem kpB_t {B1 B2 : Nat} {X Y Z : World} (h : KpB B1 B2 X Y) (k : KpB B1 B2 Y Z) : KpB B1 B2 X Z := ⟨k.1.trans h.1, k.2.trans h.2⟩
theorem kpB_b {B1 B2 : Nat} {w : World} (h1 : B1 < w.heap.size) (h2 : B2 < w.heap.size) (W : World) (l : Nat) (o o' : Obj) (hl : w.heap.size ≤ l) (h : W.heap[l]? = some o) (_ : o.isCells = false) (_ : o.isWalk = false) : KpB B1 B2 W (W.putObj l o') :=
  ⟨World.putObj_heap_other (by omega), World.putObj_heap_other (by omega)⟩
theorem KpB.cell1 {B1 B2 : Nat} {W W' : World} (h : KpB B1 B2 W W') {v : Value} (c : W.cell? ⟨B1, 0, none⟩ = some v) : W'.cell? ⟨B1, 0, none⟩ = some v := (World.cell?_of_block (a := ⟨B1, 0, none⟩) h.1).trans c
theorem KpB.cell2 {B1 B2 : Nat} {W W' : World} (h : KpB B1 B2 W W') {v : Value} (c : W.cell? ⟨B2, 0, none⟩ = some v) : W'.cell? ⟨B2, 0, none⟩ = some v := (World.cell?_of_block (a := ⟨B2, 0, none⟩) h.2).trans c
def bencs (NB sums each : Nat) (x : BI NB) : Array Value := #[.int .i64 ((x.1 * each : Nat) : Int), .int .i64 ((manyv sums each x.1 : Nat) : Int)]
set_option maxRecDepth 100000 in
set_option maxHeartbeats 4000000 in
theorem blocks_stops (n B1 B2 sums each NB : Nat) (hn : 1 ≤ n) (hs : sums ≤ 1099511627776) (he : each ≤ 4096) (hNB : ∀ q, q < NB → q * each < sums) (hall : sums ≤ NB * each) (w : World) (h1 : B1 < w.heap.size) (h2 : B2 < w.heap.size)
    (c1 : w.cell? ⟨B1, 0, none⟩ = some (.int .i64 (sums : Nat))) (c2 : w.cell? ⟨B2, 0, none⟩ = some (.int .i64 (each : Nat))) :
    SeqStopsK Fence.wide n Try.prog 71 #[.pointer (some ⟨B1, 0, none⟩), .pointer (some ⟨B2, 0, none⟩)] (bencs NB sums each) (KpB B1 B2) (fun xs => xs.map (fun x => x.1) = List.range NB) (fun _ => True) NB w := by
  intro l J Jx W hW hJ hJx hY h0
  have C1 : W.cell? ⟨B1, 0, none⟩ = some (.int .i64 (sums : Nat)) := (hW.cell (p := ⟨B1, 0, none⟩) (by show B1 < _; omega)).trans c1
  have C2 : W.cell? ⟨B2, 0, none⟩ = some (.int .i64 (each : Nat)) := (hW.cell (p := ⟨B2, 0, none⟩) (by show B2 < _; omega)).trans c2
  refine callsIn_of_wp Try.func71 rfl trivial ?_ rfl
  simp only [Try.ntmps71, List.size_toArray, List.length_cons, List.length_nil, Nat.reduceAdd, Nat.reduceSub, Array.replicate_succ, Array.replicate_zero, List.push_toArray, List.append_toArray, List.nil_append, List.cons_append]
  clear c1 c2 hW
  gi_wp2
  gi_loopw [4] (fun p wr => ∃ q : Nat, q ≤ NB ∧ p = .int .i64 ((min sums (q * each) : Nat) : Int) ∧ KpB B1 B2 W wr ∧ J (firstB NB q) wr) (fun p _ => sums - (intOf p).toNat)
  case atStart => exact ⟨0, Nat.zero_le _, by simp, ⟨rfl, rfl⟩, h0⟩
  case round =>
    obtain ⟨q, hq, rfl, hb, hj⟩ := hrel
    have d1 : wr.cell? ⟨B1, 0, none⟩ = some (.int .i64 (sums : Nat)) := hb.cell1 C1
    have d2 : wr.cell? ⟨B2, 0, none⟩ = some (.int .i64 (each : Nat)) := hb.cell2 C2
    by_cases hlt : q < NB
    · have hqe := hNB q hlt
      have hmin : min sums (q * each) = q * each := by omega
      have hY := hY (firstB NB q) ⟨q, hlt⟩ wr hj (by rw [firstB_length hq]; exact hlt)
      have hF := firstB_succ hlt
      have hnx : min sums ((q + 1) * each) = q * each + manyv sums each q := by
        have : (q + 1) * each = q * each + each := Nat.succ_mul q each
        unfold manyv; omega
      have hmz : 0 < manyv sums each q := by
        have : 0 < each := by
          rcases Nat.eq_zero_or_pos each with e | e
          · subst e; simp at hall; omega
          · exact e
        unfold manyv; omega
      have hmv : min (each : Int) ((sums : Int) - ((q * each : Nat) : Int)) = ((manyv sums each q : Nat) : Int) := by unfold manyv; omega
      have hmle : manyv sums each q ≤ sums - q * each := by unfold manyv; omega
      unfold bencs at hY
      dsimp only at hY
      rw [hmin]
      generalize manyv sums each q = M at *
      have HNX := Lib.hid hnx
      have HF := Lib.hid hF
      clear hnx hmin hF
      generalize q * each = a at *
      obtain ⟨fn, tmps, assign, body, hy, hR⟩ := hY
      gi_wp2
      refine hR.mono ?_
      rintro e W3 (⟨rfl, hJ3, hk3⟩ | ⟨rfl, hJx3⟩)
      · have hb3 := kpB_t hb hk3
        have d3 : W3.cell? ⟨B1, 0, none⟩ = some (.int .i64 (sums : Nat)) := hb3.cell1 C1
        have d4 : W3.cell? ⟨B2, 0, none⟩ = some (.int .i64 (each : Nat)) := hb3.cell2 C2
        rw [← HF.out] at hJ3
        gi_wp2
        exact ⟨⟨q + 1, by omega, by rw [HNX.out]; go_num, hb3, hJ3⟩, by simp [intOf]; omega⟩
      · gi_wp2
        refine bodyPost_ret (results_none rfl _ _ _) rfl ?_
        exact ⟨⟨_, rfl⟩, .inr ⟨_, trivial, hJx3⟩⟩
    · obtain rfl : q = NB := by omega
      have hmin : min sums (q * each) = sums := by omega
      rw [hmin]
      clear hmin
      gi_wp2
      go_end0
      exact ⟨⟨_, rfl⟩, .inl ⟨_, firstB_map q (Nat.le_refl _), hj⟩⟩
end Go.Proofs.Ythbbkmkaopgmdaa
