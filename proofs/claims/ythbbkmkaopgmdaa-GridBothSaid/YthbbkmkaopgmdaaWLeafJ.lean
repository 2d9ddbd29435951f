/-
  Layer 7 (leaf): rows of classes; is a class among them? Which leaves may be.
-/
import Derived.Test.YthbbkmkaopgmdaaWClsJ
import Derived.Test.YthbbkmkaopgmdaaWRows
import Derived.Test.YthbbkmkaopgmdaaZeros
import Derived.Deep.RegionLaw
import Derived.Deep.AppendLies
import Derived.Shelf.Abstract
namespace Go.Proofs.Ythbbkmkaopgmdaa
open Go.RowKit BG
attribute [local go_sem ↓] Go.wp_at_zero Go.wp_at_succ
set_option linter.unusedVariables false

/-- Class j of a row of classes. -/
def cls (xs : List Int) (j : Nat) : Cl := ⟨nth xs (j * 4), nth xs (j * 4 + 1), nth xs (j * 4 + 2), nth xs (j * 4 + 3)⟩
theorem cls_ok {xs : List Int} (hu : U64 xs) (j : Nat) : (cls xs j).ok := ⟨hu _, hu _, hu _, hu _⟩
theorem add_more (ad : Addr) (k : Nat) {i : Nat} (hi : 0 < i) : (⟨(ad.add k).block, (ad.add k).off + i, none⟩ : Addr) = ad.add (k + i) := by
  unfold Addr.add
  by_cases h : k = 0
  · subst h
    rw [if_pos rfl, if_neg (by omega)]
    simp
  · rw [if_neg h, if_neg (by omega)]; simp; omega
theorem Rd.cl {w : World} {A : Option Addr} {xs : List Int} {n j : Nat} (h : Rd .u64 w A xs) (hl : xs.length = 4 * n) (hj : j < n) : ∃ ad, A = some ad ∧ w.cell? (ad.add (j * 4)) = some (.int .u64 (cls xs j).a) ∧ w.cell? ⟨(ad.add (j * 4)).block, (ad.add (j * 4)).off + 1, none⟩ = some (.int .u64 (cls xs j).b) ∧ w.cell? ⟨(ad.add (j * 4)).block, (ad.add (j * 4)).off + 2, none⟩ = some (.int .u64 (cls xs j).c) ∧ w.cell? ⟨(ad.add (j * 4)).block, (ad.add (j * 4)).off + 3, none⟩ = some (.int .u64 (cls xs j).d) := by
  obtain ⟨ad, e, hc⟩ := h.2 (by omega)
  exact ⟨ad, e, hc (j * 4) (by omega), by rw [add_more ad _ (by decide)]; exact hc (j * 4 + 1) (by omega), by rw [add_more ad _ (by decide)]; exact hc (j * 4 + 2) (by omega), by rw [add_more ad _ (by decide)]; exact hc (j * 4 + 3) (by omega)⟩
/-- Where a class stands first. -/
def idxv (xs : List Int) (n : Nat) (v : Cl) : Int :=
  match (List.range n).find? fun j => decide (cls xs j = v) with
  | some j => (j : Int)
  | none => -1
def contv (xs : List Int) (n : Nat) (v : Cl) : Bool := (List.range n).any fun j => decide (cls xs j = v)
theorem idxv_at {xs : List Int} {n j : Nat} {v : Cl} (hj : j < n) (h : cls xs j = v) (hm : ∀ q, q < j → cls xs q ≠ v) : idxv xs n v = j := by
  unfold idxv
  rw [find_at hj (decide_eq_true h) fun q hq => decide_eq_false (hm q hq)]
theorem idxv_no {xs : List Int} {n : Nat} {v : Cl} (hm : ∀ q, q < n → cls xs q ≠ v) : idxv xs n v = -1 := by
  unfold idxv
  rw [find_no fun q hq => decide_eq_false (hm q hq)]
theorem idxv_cont (xs : List Int) (n : Nat) (v : Cl) : decide (0 ≤ idxv xs n v) = contv xs n v := by
  unfold idxv contv
  cases h : (List.range n).find? fun j => decide (cls xs j = v) with
  | some j =>
    dsimp only
    rw [decide_eq_true (by omega)]
    symm
    rw [List.any_eq_true]
    exact ⟨j, List.mem_of_find?_eq_some h, List.find?_some (p := fun j => decide (cls xs j = v)) h⟩
  | none =>
    dsimp only
    rw [decide_eq_false (by decide)]
    symm
    rw [List.any_eq_false]
    rw [List.find?_eq_none] at h
    exact h
theorem idxv_bd (xs : List Int) (n : Nat) (v : Cl) : -1 ≤ idxv xs n v ∧ idxv xs n v < n + 1 := by
  unfold idxv
  cases h : (List.range n).find? fun j => decide (cls xs j = v) with
  | some j =>
    have := List.mem_range.1 (List.mem_of_find?_eq_some h)
    dsimp only
    omega
  | none => dsimp only; omega
set_option maxRecDepth 100000 in
set_option maxHeartbeats 4000000 in
theorem index_c (A : Option Addr) (cap n : Nat) (xs : List Int) (v : Cl) (hl : xs.length = 4 * n) (w : World) (hr : Rd .u64 w A xs) : Calls Try.prog 42 #[.slice A n cap, v.v] w (Ret (.int .i64 (idxv xs n v)) w) := by
  have hm := hr.1
  have hat := fun j => idxv_at (xs := xs) (n := n) (j := j) (v := v)
  have hno := idxv_no (xs := xs) (n := n) (v := v)
  have E := fun j w1 => eqCl v (cls xs j) w1
  have HAT := Lib.hid hat
  have HNO := Lib.hid hno
  generalize idxv xs n v = ix at *
  clear hat hno
  have hb0 := blk_new w v.cells
  have ka := kept_alloc (kept_refl w) v.cells
  obtain ⟨v0, v1, v2, v3⟩ := v
  dsimp only [Cl.v, Cl.cells] at hb0 ka E
  go_enter Try.func42, Try.ntmps42
  go_wp2_with fail
  go_loopw [8] (fun i wr => ∃ j : Nat, j ≤ n ∧ i = .int .i64 j ∧ wr.heap[w.heap.size]? = some (Cl.cells ⟨v0, v1, v2, v3⟩) ∧ Kept w wr ∧ Hid (∀ q, q < j → cls xs q ≠ ⟨v0, v1, v2, v3⟩)) (fun i _ => n - (intOf i).toNat)
  case atStart => exact ⟨0, Nat.zero_le _, rfl, hb0, ka, fun q hq => absurd hq (Nat.not_lt_zero q)⟩
  case round =>
    clear hb0 ka
    obtain ⟨j, hj, rfl, hb0, hkw, HQ⟩ := hrel
    by_cases hlt : j < n
    · have E := E j
      obtain ⟨ad, rfl, d0, d1, d2, d3⟩ := (hr.kept hkw).cl hl hlt
      obtain ⟨c0, c1, c2, c3⟩ := cl_cells hb0
      dsimp only at c0 c1 c2 c3
      have hx := HAT.out j hlt
      have HX := Lib.hid hx
      clear hx HAT HNO
      generalize hcl : cls xs j = x at *
      have HCL := Lib.hid hcl
      clear hcl
      obtain ⟨x0, x1, x2, x3⟩ := x
      dsimp only at d0 d1 d2 d3 E
      have hdc : decide ((⟨v0, v1, v2, v3⟩ : Cl) = ⟨x0, x1, x2, x3⟩) = decide ((⟨x0, x1, x2, x3⟩ : Cl) = ⟨v0, v1, v2, v3⟩) := by
        by_cases h : (⟨v0, v1, v2, v3⟩ : Cl) = ⟨x0, x1, x2, x3⟩
        · rw [decide_eq_true h, decide_eq_true h.symm]
        · rw [decide_eq_false h, decide_eq_false fun q => h q.symm]
      rw [hdc] at E
      clear hdc
      generalize hbe : decide ((⟨x0, x1, x2, x3⟩ : Cl) = ⟨v0, v1, v2, v3⟩) = be at *
      have HBE := Lib.hid hbe
      clear hbe
      go_wp2_with fail
      have ks_0 := fun s => kw_cell s c0
      have ks_1 := fun s => kw_cell s c1
      have ks_2 := fun s => kw_cell s c2
      have ks_3 := fun s => kw_cell s c3
      have ls_0 := fun s => kw_cell s d0
      have ls_1 := fun s => kw_cell s d1
      have ls_2 := fun s => kw_cell s d2
      have ls_3 := fun s => kw_cell s d3
      refine wp_region_kept (by kernel_rfl) (by kernel_rfl) ?_
      repeat (first | go_big_quiet_skip | (go_big_quiet_want; go_big_quiet_op; go_big_quiet_on))
      refine wpQuiet_nil ?_
      rintro w7 ⟨⟨_, hk7⟩, rfl⟩
      clear ks_0 ks_1 ks_2 ks_3 ls_0 ls_1 ls_2 ls_3 c0 c1 c2 c3 d0 d1 d2 d3 E
      replace hb0 := blk_kept hk7 hb0
      replace hkw := kept_trans hkw hk7
      cases be
      · have hne : (⟨x0, x1, x2, x3⟩ : Cl) ≠ ⟨v0, v1, v2, v3⟩ := of_decide_eq_false HBE.out
        have HQ' : Hid (∀ q, q < j + 1 → cls xs q ≠ ⟨v0, v1, v2, v3⟩) := fun q hq => by
          rcases Nat.lt_or_ge q j with h | h
          · exact HQ q h
          · obtain rfl : q = j := by omega
            rw [HCL.out]; exact hne
        clear hne HX HQ
        go_wp2_with fail
        exact ⟨⟨j + 1, by omega, by go_num, hb0, hkw, HQ'⟩, by simp [intOf]; omega⟩
      · have hix := HX.out (of_decide_eq_true HBE.out) HQ.out
        subst hix
        clear HX HQ HBE hb0
        go_wp2_with fail
        go_ret
        exact ⟨rfl, hkw⟩
    · obtain rfl : j = n := by omega
      have hix := HNO.out HQ.out
      subst hix
      clear HAT HNO HQ E hb0
      go_wp2_with fail
      go_ret
      exact ⟨rfl, hkw⟩
theorem contains_c (A : Option Addr) (cap n : Nat) (xs : List Int) (v : Cl) (hl : xs.length = 4 * n) (w : World) (hr : Rd .u64 w A xs) : Calls Try.prog 27 #[.slice A n cap, v.v] w (Ret (.bool (contv xs n v)) w) := by
  have I := fun w1 a => index_c A cap n xs v hl w1 a
  have hb := idxv_cont xs n v
  have HB := Lib.hid hb
  clear hb
  generalize idxv xs n v = ix at *
  generalize contv xs n v = cb at *
  have hb0 := cl_cells (blk_new w v.cells)
  have ka := kept_alloc (kept_refl w) v.cells
  obtain ⟨v0, v1, v2, v3⟩ := v
  dsimp only [Cl.v, Cl.cells] at hb0 ka I
  obtain ⟨c0, c1, c2, c3⟩ := hb0
  have I := I _ (hr.kept ka)
  go_enter Try.func27, Try.ntmps27
  go_wp2_with fail
  refine I.mono ?_
  rintro e w1 ⟨rfl, hk1⟩
  clear I c0 c1 c2 c3
  go_wp2_with fail
  go_ret
  exact ⟨by rw [← HB.out]; rfl, kept_trans ka hk1⟩
end Go.Proofs.Ythbbkmkaopgmdaa
/-
  Layer 7 (leaf): which leaves may be.
-/
namespace Go.Proofs.Ythbbkmkaopgmdaa
open Go.RowKit BG
attribute [local go_sem ↓] Go.wp_at_zero Go.wp_at_succ
set_option linter.unusedVariables false

abbrev leafV (A : Option Addr) (n cap : Nat) (K : Int) : Value := .agg #[.slice A n cap, .int .i64 K]
/-- Which leaves may be. -/
def rightv (xs : List Int) (n : Nat) (K : Int) : Bool := decide (1 ≤ n) && decide (n ≤ 64) && !contv xs n zerov && decide (0 ≤ K) && decide (K ≤ 64)
end Go.Proofs.Ythbbkmkaopgmdaa
/-
  Layer 7 (leaf): which leaves are plain; the document's.
-/
namespace Go.Proofs.Ythbbkmkaopgmdaa
open Go.RowKit BG
attribute [local go_sem ↓] Go.wp_at_zero Go.wp_at_succ
set_option linter.unusedVariables false

def freev (x : Cl) : Bool := decide (x = fullv)
def okel (x : Cl) : Bool := (sgl x).2 || freev x
def plainv (xs : List Int) (n : Nat) : Bool := (List.range n).all fun j => okel (cls xs j)
theorem plainv_no {xs : List Int} {n j : Nat} (hj : j < n) (h : okel (cls xs j) = false) : plainv xs n = false := by
  unfold plainv
  rw [List.all_eq_false]
  exact ⟨j, List.mem_range.2 hj, by rw [h]; decide⟩
theorem plainv_yes {xs : List Int} {n : Nat} (h : ∀ j, j < n → okel (cls xs j) = true) : plainv xs n = true := by
  unfold plainv
  rw [List.all_eq_true]
  exact fun j hj => h j (List.mem_range.1 hj)
theorem contv_yes {xs : List Int} {n j : Nat} {v : Cl} (hj : j < n) (h : cls xs j = v) : contv xs n v = true := by
  unfold contv
  rw [List.any_eq_true]
  exact ⟨j, List.mem_range.2 hj, decide_eq_true h⟩
theorem contv_no {xs : List Int} {n : Nat} {v : Cl} (h : ∀ j, j < n → cls xs j ≠ v) : contv xs n v = false := by
  unfold contv
  rw [List.any_eq_false]
  exact fun j hj => by simpa using h j (List.mem_range.1 hj)
end Go.Proofs.Ythbbkmkaopgmdaa
/-
  Layer 7 (leaf): the leaf of a text.
-/
namespace Go.Proofs.Ythbbkmkaopgmdaa
open Go.RowKit BG
attribute [local go_sem ↓] Go.wp_at_zero Go.wp_at_succ
set_option linter.unusedVariables false

/-- A call whose contract is Ret, as one step of a region that draws its order. -/
theorem step_call {P : Program} {w : World} {ops : Array Oper} {o : Oper} {a : Act} {K : Act → World → Prop} {Q : Exit → Act → World → Prop} {E : Prop} (hgd : o.guard = none) (f : FuncId) (xs : Array Operand) (ts : Array TypeId)
    (ho : o.op = .call { callee := .value (.func f), args := xs, argTypes := ts }) (args : Array Value) (hx : xs.map a.eval = args) (eg : ∀ args w, (callFunc f args).run P w = .ok (.enter f args) w) (v : Value) (C : Calls P f args w (Ret v w)) (h : ∀ w', Kept w w' → K (a.put o.dst v) w') :
    if Region.wanted o (yielded ops a.tmps) = true then Oper.wp P o a w K Q else E := by
  have hw : Region.wanted o (yielded ops a.tmps) = true := by simp [Region.wanted, hgd]
  rw [if_pos hw]
  unfold Oper.wp execOp
  simp only [ho, resolve, hx]
  simp [go_sem, eg, Oper.upon]
  exact C.mono fun e w' ⟨he, hk⟩ => by subst he; exact h w' hk
theorem info_class : (Try.prog.info? 61).map (fun i => (i.zero, i.size, i.bytes)) = some (some (.agg #[.int .u64 0, .int .u64 0, .int .u64 0, .int .u64 0]), 4, 32) := by kernel_rfl
theorem own_farN {w : World} {base n size : Nat} {e : TypeId} {v : Value} {xs : List Value} (h : w.ownsRow base e size v n xs) {g : Nat} (hg : g < base) : some g ≠ v.ownBlock := fun e => by have := (World.ownsRow.lt h g e.symm).1; omega
theorem ownN_set {w : World} {base n size : Nat} {e : TypeId} {v : Value} {xs : List Value} (h : w.ownsRow base e size v n xs) {p : Addr} (hp : p.block < base) (u : Value) : (w.setCell p u).ownsRow base e size v n xs :=
  World.ownsRow.kept h (⟨rfl, rfl, rfl, by simp, fun i hi hne => Below.heap_setCell w p u i fun e => hne (by rw [e])⟩ : w.grownBy (w.setCell p u) (some p.block)) (by
    cases e : v.ownBlock with
    | none => exact .inl rfl
    | some g => exact .inr fun e2 => by cases e2; have := (World.ownsRow.lt h _ e).1; omega)
theorem ownN_rd {w : World} {base n size : Nat} {e : TypeId} {v : Value} {xs : List Int} (h : w.ownsRow base e size v n (xs.map (Value.int .u64))) (hl : xs.length = size * n) (hb : xs.length ≤ 9223372036854775807) : ∃ A cap, v = .slice A n cap ∧ n ≤ cap ∧ Rd .u64 w A xs := by
  rcases h.2 with ⟨rfl, h0⟩ | ⟨g, cap, cur, e1, _, hg, hc, hm, hcur⟩
  · have h1 := h.1
    subst h0
    have hx : xs = [] := by
      rw [List.length_map, Nat.zero_mul] at h1
      exact List.length_eq_zero_iff.1 h1
    subst hx
    exact ⟨none, 0, rfl, Nat.le_refl _, Rd.nil _ _ _⟩
  · subst e1
    refine ⟨_, cap, rfl, hc, hb, fun _ => ⟨_, rfl, fun j hj => World.ownsRow.cells h (g := g) rfl j _ ?_⟩⟩
    rw [List.getElem?_map, List.getElem?_eq_getElem hj, Option.map_some, nth_lt hj]
theorem step_call1 {P : Program} {w : World} {ops : Array Oper} {o : Oper} {a : Act} {K : Act → World → Prop} {Q : Exit → Act → World → Prop} {E : Prop} (hgd : o.guard = none) (f : FuncId) (x : Operand) (ts : Array TypeId)
    (ho : o.op = .call { callee := .value (.func f), args := #[x], argTypes := ts }) (u : Value) (hx : a.eval x = u) (eg : ∀ args w, (callFunc f args).run P w = .ok (.enter f args) w) (v : Value) (C : Calls P f #[u] w (Ret v w)) (h : ∀ w', Kept w w' → K (a.put o.dst v) w') :
    if Region.wanted o (yielded ops a.tmps) = true then Oper.wp P o a w K Q else E :=
  step_call hgd f #[x] ts ho #[u] (by simp [hx]) eg v C h
def clL (x : Cl) : List Int := [x.a, x.b, x.c, x.d]
/-- The row of the classes of a text's first bytes. -/
def txtT (s : ByteArray) (n : Nat) : List Int := (List.range n).flatMap fun j => clL (onlyv (byteAt s j))
theorem txtT_succ (s : ByteArray) (n : Nat) : txtT s (n + 1) = txtT s n ++ clL (onlyv (byteAt s n)) := by unfold txtT; rw [List.range_succ, List.flatMap_append]; simp
theorem txtT_length (s : ByteArray) : ∀ n, (txtT s n).length = 4 * n := by
  intro n
  induction n with
  | zero => rfl
  | succ n ih => rw [txtT_succ, List.length_append, ih]; simp [clL]; omega
theorem nth_append_r {xs ys : List Int} {j : Nat} (h : xs.length ≤ j) : nth (xs ++ ys) j = nth ys (j - xs.length) := by
  unfold nth; rw [List.getD_eq_getElem?_getD, List.getElem?_append_right h, ← List.getD_eq_getElem?_getD]
theorem txtT_cls (s : ByteArray) {j : Nat} : ∀ {n}, j < n → cls (txtT s n) j = onlyv (byteAt s j) := by
  intro n
  induction n with
  | zero => intro h; exact absurd h (Nat.not_lt_zero j)
  | succ n ih =>
    intro h
    have hl := txtT_length s n
    rw [txtT_succ]
    unfold cls
    rcases Nat.lt_or_ge j n with h1 | h1
    · rw [nth_append_l (by omega), nth_append_l (by omega), nth_append_l (by omega), nth_append_l (by omega)]
      exact ih h1
    · obtain rfl : j = n := by omega
      rw [nth_append_r (by omega), nth_append_r (by omega), nth_append_r (by omega), nth_append_r (by omega), hl, show j * 4 - 4 * j = 0 by omega, show j * 4 + 1 - 4 * j = 1 by omega, show j * 4 + 2 - 4 * j = 2 by omega, show j * 4 + 3 - 4 * j = 3 by omega]
      rfl
theorem txtT_u64 (s : ByteArray) (n : Nat) : U64 (txtT s n) := by
  intro j
  by_cases h : j < 4 * n
  · have hc := txtT_cls s (j := j / 4) (n := n) (by omega)
    have ho := onlyv_ok (byteAt s (j / 4))
    rw [← hc] at ho
    obtain ⟨h0, h1, h2, h3⟩ := ho
    have e : j = j / 4 * 4 ∨ j = j / 4 * 4 + 1 ∨ j = j / 4 * 4 + 2 ∨ j = j / 4 * 4 + 3 := by omega
    rcases e with e | e | e | e <;> rw [e]
    · exact h0
    · exact h1
    · exact h2
    · exact h3
  · unfold nth; rw [List.getD_eq_getElem?_getD, List.getElem?_eq_none (by rw [txtT_length]; omega)]; exact ⟨Int.le_refl 0, by decide⟩
theorem extract_one {s : ByteArray} {i : Nat} (h : i < s.size) : (s.extract i (i + 1)).size = 1 ∧ byteAt (s.extract i (i + 1)) 0 = byteAt s i := by
  have hs : (s.extract i (i + 1)).size = 1 := by rw [ByteArray.size_extract]; omega
  refine ⟨hs, ?_⟩
  unfold byteAt
  rw [dif_pos (by rw [hs]; decide), dif_pos h, ByteArray.getElem_extract]
  rfl
theorem ofT_one {s : ByteArray} {i : Nat} (h : i < s.size) : ofT (s.extract i (i + 1)) (s.extract i (i + 1)).size = onlyv (byteAt s i) := by
  obtain ⟨h1, h2⟩ := extract_one h
  rw [h1]
  show withv zerov (byteAt _ 0) = _
  rw [h2]
  rfl
end Go.Proofs.Ythbbkmkaopgmdaa
