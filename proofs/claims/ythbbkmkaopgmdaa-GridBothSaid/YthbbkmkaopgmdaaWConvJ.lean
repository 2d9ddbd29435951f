/-
  Layer 4 (conv): sizes, the greatest, what is amiss.
-/
import Derived.Test.YthbbkmkaopgmdaaConvJ
import Derived.Test.YthbbkmkaopgmdaaWSame
import Derived.Test.YthbbkmkaopgmdaaTail
import Derived.Test.YthbbkmkaopgmdaaZeros
import Derived.Deep.RegionLaw
import Derived.Deep.AppendLies
import Derived.Laws.AppendOwnNone
namespace Go.Proofs.Ythbbkmkaopgmdaa
open Go.RowKit BG
attribute [local go_sem ↓] Go.wp_at_zero Go.wp_at_succ
set_option linter.unusedVariables false

def szv (n : Int) : Int := if szOk n then ((2 ^ szL n : Nat) : Int) else 0
section
variable {P : Program} (w : World)
theorem run_max_at (ts : Array TypeId) (t : TypeId) (k k' : IntKind) (x y : Int) : (Builtin.max_ ts t #[.int k x, .int k' y]).run P w = .ok (.int k (max x y)) w := by
  rw [Go.run_max_int2, show (if y > x then y else x) = max x y by split <;> omega]
theorem run_min_at (ts : Array TypeId) (t : TypeId) (k k' : IntKind) (x y : Int) : (Builtin.min_ ts t #[.int k x, .int k' y]).run P w = .ok (.int k (min x y)) w := by
  rw [Go.run_min_int2, show (if y < x then y else x) = min x y by split <;> omega]
end
attribute [local go_sem ↓] run_min_at run_max_at
theorem greatest_c (A : Option Addr) (cap : Nat) (xs : List Int) (hu : U64 xs) (w : World) (hr : Rd .u64 w A xs) : Calls Try.prog 67 #[.slice A xs.length cap] w (Ret (.int .u64 (greatest xs)) w) := by
  have hm := hr.1
  unfold greatest
  generalize hn : xs.length = n at *
  go_enter Try.func67, Try.ntmps67
  go_wp2_with fail
  go_loopw [3, 8] (fun o i wr => ∃ q : Nat, q ≤ n ∧ i = .int .i64 q ∧ o = .int .u64 (grT (nth xs) q) ∧ Kept w wr) (fun _ i _ => n - (intOf i).toNat)
  case atStart => exact ⟨0, Nat.zero_le _, rfl, rfl, kept_refl _⟩
  case round =>
    obtain ⟨q, hq, rfl, rfl, hk⟩ := hrel
    by_cases hlt : q < n
    · obtain ⟨ad, rfl, c0⟩ := (hr.kept hk).at_ (j := q) (by omega)
      have hs : max (grT (nth xs) q) (nth xs q) = grT (nth xs) (q + 1) := rfl
      generalize hg' : grT (nth xs) (q + 1) = g' at *
      have HG := Lib.hid hg'
      clear hg'
      generalize grT (nth xs) q = g at *
      generalize nth xs q = x at *
      have HS := Lib.hid hs
      clear hs
      go_wp2_with fail
      exact ⟨⟨q + 1, by omega, by go_num, by rw [HS.out, HG.out], hk⟩, by simp [intOf]; omega⟩
    · obtain rfl : q = n := by omega
      go_wp2_with fail
      go_ret
      exact ⟨rfl, hk⟩
def ovr (a b : Int) : Bool := decide (a ≠ 0 ∧ 18446744073709551615 / a < b)
end Go.Proofs.Ythbbkmkaopgmdaa
/-
  Layer 4 (conv): what is amiss with two rows.
-/
namespace Go.Proofs.Ythbbkmkaopgmdaa
open Go.RowKit BG
attribute [local go_sem ↓] Go.wp_at_zero Go.wp_at_succ run_min_at run_max_at
set_option linter.unusedVariables false

theorem cerr_of (la lb : Nat) (x y : Int) (h : ¬ 4097 < la + lb) : cerr la lb x y = if ovr x y then 40 else if ovr (x * y) ((min la lb : Nat) : Int) then 40 else 0 := by
  unfold cerr ovr
  rw [if_neg h]
  by_cases h1 : x ≠ 0 ∧ 18446744073709551615 / x < y
  · simp [h1]
  · by_cases h2 : x * y ≠ 0 ∧ 18446744073709551615 / (x * y) < ((min la lb : Nat) : Int)
    · rw [if_neg h1, if_pos h2]; simp [h1, h2]
    · rw [if_neg h1, if_neg h2]; simp only [h1, h2, decide_false]; simp
theorem min_cast (a b : Nat) : min (a : Int) (b : Int) = ((min a b : Nat) : Int) := by omega
theorem ovr_no {x y : Int} (hx : 0 ≤ x) (hy : 0 ≤ y) (h : ovr x y = false) : x * y ≤ 18446744073709551615 := over_no hx hy (of_decide_eq_false h)
end Go.Proofs.Ythbbkmkaopgmdaa
/-
  Layer 4 (conv): products one by one, by the code and by the document.
-/
namespace Go.Proofs.Ythbbkmkaopgmdaa
open Go.RowKit BG
attribute [local go_sem ↓] Go.wp_at_zero Go.wp_at_succ run_min_at run_max_at
set_option linter.unusedVariables false

theorem Ans.none {l : List Int} {er : Int} {w w' : World} (hl : l = []) (hk : Kept w w') : Ans l er w (.returned (.tuple #[.slice none 0 0, .int .i64 er])) w' := by
  subst hl; exact ⟨Option.none, 0, rfl, Rd.nil _ _ _, hk, by simp, by omega⟩
theorem pval_nil {xs ys : List Int} (h : xs.length = 0 ∨ ys.length = 0) : pval xs ys = [] ∧ perr xs ys = 0 := by
  refine ⟨?_, ?_⟩
  · unfold pval; rw [if_pos (by omega)]
  · unfold perr; rw [if_pos h]
theorem pval_err {xs ys : List Int} (h1 : xs.length ≠ 0) (h2 : ys.length ≠ 0) : perr xs ys = cerr xs.length ys.length (greatest xs) (greatest ys) := by
  unfold perr; rw [if_neg (by omega)]
theorem pval_bad {xs ys : List Int} (h : perr xs ys ≠ 0) : pval xs ys = [] := by unfold pval; rw [if_pos (.inr (.inr h))]
theorem pval_good {xs ys : List Int} (h1 : xs.length ≠ 0) (h2 : ys.length ≠ 0) (h : perr xs ys = 0) : pval xs ys = prodv (nth xs) (nth ys) xs.length ys.length := by unfold pval; rw [if_neg (by omega)]
theorem wrap_mod (n : Int) : IntKind.u64.wrap n = n % 18446744073709551616 := IntKind.wrap_u64 n
theorem beq_zero (n : Nat) (h : n ≠ 0) : ((n : Int) == 0) = false := by rw [beq_eq_false_iff_ne]; omega
theorem rowRd {k : IntKind} {e : TypeId} {base n g c : Nat} {w : World} {xs : List Int} (h : w.ownsRow base e 1 (.slice (some ⟨g, 0, none⟩) n c) n (xs.map (Value.int k))) (hn : xs.length = n) : Rd k w (some ⟨g, 0, none⟩) xs := by
  have hO : Own k e base w (.slice (some ⟨g, 0, none⟩) n c) xs := by
    unfold Own
    rw [hn]
    exact h
  obtain ⟨A', c', e, _, _, r⟩ := hO.rd
  simp only [Value.slice.injEq] at e
  rw [← e.1] at r
  exact r
end Go.Proofs.Ythbbkmkaopgmdaa
/-
  Layer 4 (conv): products by the document.
-/
namespace Go.Proofs.Ythbbkmkaopgmdaa
open Go.RowKit BG
attribute [local go_sem ↓] Go.wp_at_zero Go.wp_at_succ run_min_at run_max_at
set_option linter.unusedVariables false

def prT (a b : Nat → Int) (lb i j : Nat) : Int := (sumTo j fun j' => if j' ≤ i ∧ i - j' < lb then a j' * b (i - j') else 0) % 18446744073709551616
theorem prT_bd (a b : Nat → Int) (lb i j : Nat) : 0 ≤ prT a b lb i j ∧ prT a b lb i j ≤ 18446744073709551615 := by unfold prT; omega
theorem prT_zero (a b : Nat → Int) (lb i : Nat) : prT a b lb i 0 = 0 := rfl
theorem prT_yes (a b : Nat → Int) {lb i j : Nat} (h : j ≤ i ∧ i - j < lb) : (prT a b lb i j + a j * b (i - j) % 18446744073709551616) % 18446744073709551616 = prT a b lb i (j + 1) := by
  have e : (sumTo (j + 1) fun j' => if j' ≤ i ∧ i - j' < lb then a j' * b (i - j') else 0) = (sumTo j fun j' => if j' ≤ i ∧ i - j' < lb then a j' * b (i - j') else 0) + a j * b (i - j) := by
    show _ + (if j ≤ i ∧ i - j < lb then a j * b (i - j) else 0) = _
    rw [if_pos h]
  unfold prT
  rw [e, ← Int.add_emod]
theorem prT_no (a b : Nat → Int) {lb i j : Nat} (h : ¬ (j ≤ i ∧ i - j < lb)) : prT a b lb i (j + 1) = prT a b lb i j := by
  have e : (sumTo (j + 1) fun j' => if j' ≤ i ∧ i - j' < lb then a j' * b (i - j') else 0) = sumTo j fun j' => if j' ≤ i ∧ i - j' < lb then a j' * b (i - j') else 0 := by
    show _ + (if j ≤ i ∧ i - j < lb then a j * b (i - j) else 0) = _
    rw [if_neg h, Int.add_zero]
  unfold prT
  rw [e]
theorem prT_all (a b : Nat → Int) (la lb i : Nat) : prT a b lb i la = cs a b la lb i % 18446744073709551616 := rfl
end Go.Proofs.Ythbbkmkaopgmdaa
/-
  Layer 4 (conv): rows along rows, by the document.
-/
namespace Go.Proofs.Ythbbkmkaopgmdaa
open Go.RowKit BG
attribute [local go_sem ↓] Go.wp_at_zero Go.wp_at_succ run_min_at run_max_at
set_option linter.unusedVariables false

def slT (p t : Nat → Int) (i j : Nat) : Int := sl p t j i % 18446744073709551616
theorem slT_bd (p t : Nat → Int) (i j : Nat) : 0 ≤ slT p t i j ∧ slT p t i j ≤ 18446744073709551615 := by unfold slT; omega
theorem slT_step (p t : Nat → Int) (i j : Nat) : (slT p t i j + p j * t (i + j) % 18446744073709551616) % 18446744073709551616 = slT p t i (j + 1) := by
  unfold slT
  rw [← Int.add_emod]
  rfl
theorem corrv_nil {ps ts : List Int} (h : ps.length = 0 ∨ ts.length < ps.length) : corrv ps ts = [] ∧ corrErr ps ts = 0 := by
  refine ⟨?_, ?_⟩
  · unfold corrv; rw [if_pos (by omega)]
  · unfold corrErr; rw [if_pos h]
theorem corrv_bad {ps ts : List Int} (h : corrErr ps ts ≠ 0) : corrv ps ts = [] := by unfold corrv; rw [if_pos (.inr (.inr h))]
theorem corr_err {ps ts : List Int} (h0 : ps.length ≠ 0) (h1 : ¬ ts.length < ps.length) : corrErr ps ts = cerr ps.length ts.length (greatest ps) (greatest ts) := by unfold corrErr; rw [if_neg (by omega)]
theorem corrv_good {ps ts : List Int} (h0 : ps.length ≠ 0) (h1 : ¬ ts.length < ps.length) (h : corrErr ps ts = 0) : corrv ps ts = slidev (nth ps) (nth ts) ps.length ts.length := by unfold corrv; rw [if_neg (by rw [h]; omega)]
end Go.Proofs.Ythbbkmkaopgmdaa
/-
  Layer 4 (conv): products by transforms.
-/
namespace Go.Proofs.Ythbbkmkaopgmdaa
open Go.RowKit BG
attribute [local go_sem ↓] Go.wp_at_zero Go.wp_at_succ
set_option linter.unusedVariables false

theorem step_append_zeros {P : Program} {w : World} {ops : Array Oper} {o : Oper} {a : Act} {K : Act → World → Prop} {Q : Exit → Act → World → Prop} {E : Prop} (hgd : o.guard = none) (s x : Operand) (t tn : TypeId)
    (ho : o.op = .call { callee := .builtin .append, args := #[s, x], argTypes := #[t, tn] })
    (base : Nat) (e : TypeId) (i : TypeInfo) (z : Value) (kq kn : IntKind) (ht : P.underlying t = some (.slice e)) (htn : P.underlying tn = some (.int kn)) (hi : P.info? e = some i) (hz : i.zero = some z)
    (hsize : i.size = 1) (hby : i.bytes = 8) (hzc : z.cells = #[z]) (h1z : z.oneCell' = true) (g n cap : Nat) (xs : List Value) (hs : a.eval s = .slice (some ⟨g, 0, none⟩) n cap) (hown : w.ownsRow base e 1 (.slice (some ⟨g, 0, none⟩) n cap) n xs) (hb : base ≤ w.heap.size) (k : Nat) (hx : a.eval x = .int kq k) (hk : n + k ≤ 1000000)
    (h : ∀ g' cap' w', w'.ownsRow base e 1 (.slice (some ⟨g', 0, none⟩) (n + k) cap') (n + k) (xs ++ List.replicate k z) → w.grownBy w' (some g) → K (a.put o.dst (.slice (some ⟨g', 0, none⟩) (n + k) cap')) w') :
    if Region.wanted o (yielded ops a.tmps) = true then Oper.wp P o a w K Q else E := by
  obtain ⟨g', cap', w', hr, h2, h3⟩ := run_append_zeros (P := P) (w := w) base t tn o.type e i z kq kn ht htn hi hz hsize hby hzc h1z g n cap xs hown hb k hk
  have hw : Region.wanted o (yielded ops a.tmps) = true := by simp [Region.wanted, hgd]
  rw [if_pos hw]
  unfold Oper.wp execOp
  simp only [ho, resolve, invoke, builtin, Sem.run_bind, Sem.run_pure, Result.andThen_ok, List.map_toArray, List.map_cons, List.map_nil, hs, hx, hr]
  exact h g' cap' w' h2 h3
theorem rd_cells {w : World} {k : IntKind} {ad : Addr} {xs : List Int} (h : Rd k w (some ad) xs) : ∀ (j : Nat) u, (xs.map (Value.int k))[j]? = some u → w.cell? (ad.add j) = some u := by
  intro j u hj
  rw [List.getElem?_map, Option.map_eq_some_iff] at hj
  obtain ⟨z, hz, rfl⟩ := hj
  have hlt := (List.getElem?_eq_some_iff.1 hz).1
  obtain ⟨ad', e, hc⟩ := h.2 (by omega)
  cases e
  rw [hc j hlt, nth_lt hlt, (List.getElem?_eq_some_iff.1 hz).2]
theorem cells_one (k : IntKind) (xs : List Int) : ∀ u ∈ xs.map (Value.int k), u.oneCell' = true := by
  intro u hu
  rw [List.mem_map] at hu
  obtain ⟨z, _, rfl⟩ := hu
  rfl
theorem wide_is (xs : List Int) {size : Nat} (h : xs.length ≤ size) : xs.map (Value.int .u64) ++ List.replicate (size - xs.length) (Value.int .u64 0) = (widev xs size).map (Value.int .u64) := by
  refine List.ext_getElem (by simp [widev_length]; omega) fun j h1 h2 => ?_
  rw [List.getElem_map, ← nth_lt (by simpa using h2)]
  have hj : j < size := by simpa [widev_length] using h2
  unfold widev
  rw [nth_mk hj]
  by_cases hlt : j < xs.length
  · rw [List.getElem_append_left (by simpa using hlt), if_pos hlt, List.getElem_map, nth_lt hlt]
  · rw [List.getElem_append_right (by simpa using hlt), if_neg hlt, List.getElem_replicate]
end Go.Proofs.Ythbbkmkaopgmdaa
/-
  Layer 4 (conv): products by transforms.
-/
namespace Go.Proofs.Ythbbkmkaopgmdaa
open Go.RowKit BG
attribute [local go_sem ↓] Go.wp_at_zero Go.wp_at_succ
set_option linter.unusedVariables false

theorem cycv_wide {k : Int} (hk : pr k ≠ 0) {L : Nat} (hL : L ≤ 12) {xs ys : List Int} (h : xs.length + ys.length ≤ 2 ^ L + 1) (hx : 0 < xs.length) (hy : 0 < ys.length) :
    cycv k (widev xs (2 ^ L)) (widev ys (2 ^ L)) = mk (2 ^ L) fun t => of k (cs (nth xs) (nth ys) xs.length ys.length t) := by
  have he : cycErr k (widev xs (2 ^ L)).length (widev ys (2 ^ L)).length = 0 := by
    rw [widev_length, widev_length]; unfold cycErr; rw [if_pos (amiss_pow hk hL), if_pos rfl]
  unfold cycv
  rw [if_pos he, widev_length]
  exact mk_congr fun t ht => by rw [widev_cyc h hx hy ht]
theorem own_set {w : World} {base n size : Nat} {e : TypeId} {v : Value} {xs : List Value} (h : w.ownsRow base e size v n xs) {p : Addr} (hp : p.block < base) (u : Value) : (w.setCell p u).ownsRow base e size v n xs :=
  World.ownsRow.kept h (⟨rfl, rfl, rfl, by simp, fun i hi hne => Below.heap_setCell w p u i fun e => hne (by rw [e])⟩ : w.grownBy (w.setCell p u) (some p.block)) (by
    cases e : v.ownBlock with
    | none => exact .inl rfl
    | some g => exact .inr fun e2 => by cases e2; have := (World.ownsRow.lt h _ e).1; omega)
theorem Own.form {k : IntKind} {e : TypeId} {base : Nat} {w : World} {v : Value} {xs : List Int} (h : Own k e base w v xs) : ∃ A c, v = .slice A xs.length c := by
  obtain ⟨A, c, e, _⟩ := h.rd
  exact ⟨A, c, e⟩
end Go.Proofs.Ythbbkmkaopgmdaa
