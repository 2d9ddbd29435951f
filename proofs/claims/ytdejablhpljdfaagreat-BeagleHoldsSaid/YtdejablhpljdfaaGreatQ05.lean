/-
  Texts of one claim, joined: WLeaf1, WLeaf2, WLeaf3, WLeaf4, WSame, WLeaf5, WNaive, WNaive2.
-/
import Derived.Lib.AppendZerosOnto
import Derived.ArgAppend
import Derived.Deep.RegionLaw
import Derived.Deep.AppendLies
import Derived.Shelf.Abstract
import Derived.Test.YtdejablhpljdfaaGreatQ04
import Derived.Test.YtdejablhpljdfaaGreatQ01
namespace Go.Proofs.YtdejablhpljdfaaGreat
open Go.RowKit BG
attribute [local go_sem ↓] Go.wp_at_zero Go.wp_at_succ
set_option linter.unusedVariables false
def cls (xs : List Int) (j : Nat) : Cl := ⟨nth xs (j * 4), nth xs (j * 4 + 1), nth xs (j * 4 + 2), nth xs (j * 4 + 3)⟩
theorem cls_ok {xs : List Int} (hu : U64 xs) (j : Nat) : (cls xs j).ok := ⟨hu _, hu _, hu _, hu _⟩
theorem add_more (ad : Addr) (k : Nat) {i : Nat} (hi : 0 < i) : (⟨(ad.add k).block, (ad.add k).off + i, none⟩ : Addr) = ad.add (k + i) := by
  unfold Addr.add
  by_cases h : k = 0
  · subst h
    rw [if_pos rfl, if_neg (by omega)]
    simp
  · rw [if_neg h, if_neg (by omega)]; simp; omega
theorem Rd.cl {w : World} {A : Option Addr} {xs : List Int} {n j : Nat} (h : Rd .u64 w A xs) (hl : xs.length = 4 * n) (hj : j < n) : ∃ ad, A = some ad ∧ w.cell? (ad.add (j * 4)) = some (.int .u64 (cls xs j).a) ∧ w.cell? ⟨(ad.add (j * 4)).block, (ad.add (j * 4)).off + 1, none⟩ = some (.int .u64 (cls xs j).b) ∧ w.cell? ⟨(ad.add (j * 4)).block, (ad.add (j * 4)).off + 2, none⟩ = some (.int .u64 (cls xs j).c) ∧ w.cell? ⟨(ad.add (j * 4)).block, (ad.add (j * 4)).off + 3, none⟩ = some (.int .u64 (cls xs j).d) := by
  obtain ⟨ad, e, hc⟩ := h.2 (by omega)
  exact ⟨ad, e, hc (j * 4) (by omega), by rw [add_more ad _ (by decide)]; exact hc (j * 4 + 1) (by omega), by rw [add_more ad _ (by decide)]; exact hc (j * 4 + 2) (by omega), by rw [add_more ad _ (by decide)]; exact hc (j * 4 + 3) (by omega)⟩
def idxv (xs : List Int) (n : Nat) (v : Cl) : Int :=
  match (List.range n).find? fun j => decide (cls xs j = v) with
  | some j => (j : Int)
  | none => -1
def contv (xs : List Int) (n : Nat) (v : Cl) : Bool := (List.range n).any fun j => decide (cls xs j = v)
theorem idxv_at {xs : List Int} {n j : Nat} {v : Cl} (hj : j < n) (h : cls xs j = v) (hm : ∀ q, q < j → cls xs q ≠ v) : idxv xs n v = j := by
  unfold idxv
  rw [find_at hj (decide_eq_true h) fun q hq => decide_eq_false (hm q hq)]
theorem idxv_no {xs : List Int} {n : Nat} {v : Cl} (hm : ∀ q, q < n → cls xs q ≠ v) : idxv xs n v = -1 := by
  unfold idxv
  rw [find_no fun q hq => decide_eq_false (hm q hq)]
theorem idxv_cont (xs : List Int) (n : Nat) (v : Cl) : decide (0 ≤ idxv xs n v) = contv xs n v := by
  unfold idxv contv
  cases h : (List.range n).find? fun j => decide (cls xs j = v) with
  | some j =>
    dsimp only
    rw [decide_eq_true (by omega)]
    symm
    rw [List.any_eq_true]
    exact ⟨j, List.mem_of_find?_eq_some h, List.find?_some (p := fun j => decide (cls xs j = v)) h⟩
  | none =>
    dsimp only
    rw [decide_eq_false (by decide)]
    symm
    rw [List.any_eq_false]
    rw [List.find?_eq_none] at h
    exact h
set_option maxRecDepth 100000 in
set_option maxHeartbeats 4000000 in
theorem index_c (A : Option Addr) (cap n : Nat) (xs : List Int) (v : Cl) (hl : xs.length = 4 * n) (w : World) (hr : Rd .u64 w A xs) : Calls Tryz.prog 75 #[.slice A n cap, v.v] w (Ret (.int .i64 (idxv xs n v)) w) := by
  have hm := hr.1
  have hat := fun j => idxv_at (xs := xs) (n := n) (j := j) (v := v)
  have hno := idxv_no (xs := xs) (n := n) (v := v)
  have E := fun j w1 => eqCl v (cls xs j) w1
  have HAT := Lib.hid hat
  have HNO := Lib.hid hno
  generalize idxv xs n v = ix at *
  clear hat hno
  have hb0 := blk_new w v.cells
  have ka := kept_alloc (kept_refl w) v.cells
  obtain ⟨v0, v1, v2, v3⟩ := v
  dsimp only [Cl.v, Cl.cells] at hb0 ka E
  go_enter Tryz.func75, Tryz.ntmps75
  go_wp2_with fail
  go_loopw [8] (fun i wr => ∃ j : Nat, j ≤ n ∧ i = .int .i64 j ∧ wr.heap[w.heap.size]? = some (Cl.cells ⟨v0, v1, v2, v3⟩) ∧ Kept w wr ∧ Hid (∀ q, q < j → cls xs q ≠ ⟨v0, v1, v2, v3⟩)) (fun i _ => n - (intOf i).toNat)
  case atStart => exact ⟨0, Nat.zero_le _, rfl, hb0, ka, fun q hq => absurd hq (Nat.not_lt_zero q)⟩
  case round =>
    clear hb0 ka
    obtain ⟨j, hj, rfl, hb0, hkw, HQ⟩ := hrel
    by_cases hlt : j < n
    · have E := E j
      obtain ⟨ad, rfl, d0, d1, d2, d3⟩ := (hr.kept hkw).cl hl hlt
      obtain ⟨c0, c1, c2, c3⟩ := cl_cells hb0
      dsimp only at c0 c1 c2 c3
      have hx := HAT.out j hlt
      have HX := Lib.hid hx
      clear hx HAT HNO
      generalize hcl : cls xs j = x at *
      have HCL := Lib.hid hcl
      clear hcl
      obtain ⟨x0, x1, x2, x3⟩ := x
      dsimp only at d0 d1 d2 d3 E
      have hdc : decide ((⟨v0, v1, v2, v3⟩ : Cl) = ⟨x0, x1, x2, x3⟩) = decide ((⟨x0, x1, x2, x3⟩ : Cl) = ⟨v0, v1, v2, v3⟩) := by
        by_cases h : (⟨v0, v1, v2, v3⟩ : Cl) = ⟨x0, x1, x2, x3⟩
        · rw [decide_eq_true h, decide_eq_true h.symm]
        · rw [decide_eq_false h, decide_eq_false fun q => h q.symm]
      rw [hdc] at E
      clear hdc
      generalize hbe : decide ((⟨x0, x1, x2, x3⟩ : Cl) = ⟨v0, v1, v2, v3⟩) = be at *
      have HBE := Lib.hid hbe
      clear hbe
      go_wp2_with fail
      have ks_0 := fun s => kw_cell s c0
      have ks_1 := fun s => kw_cell s c1
      have ks_2 := fun s => kw_cell s c2
      have ks_3 := fun s => kw_cell s c3
      have ls_0 := fun s => kw_cell s d0
      have ls_1 := fun s => kw_cell s d1
      have ls_2 := fun s => kw_cell s d2
      have ls_3 := fun s => kw_cell s d3
      refine wp_region_kept (by kernel_rfl) (by kernel_rfl) ?_
      repeat (first | go_big_quiet_skip | (go_big_quiet_want; go_big_quiet_op; go_big_quiet_on))
      refine wpQuiet_nil ?_
      rintro w7 ⟨⟨_, hk7⟩, rfl⟩
      clear ks_0 ks_1 ks_2 ks_3 ls_0 ls_1 ls_2 ls_3 c0 c1 c2 c3 d0 d1 d2 d3 E
      replace hb0 := blk_kept hk7 hb0
      replace hkw := kept_trans hkw hk7
      cases be
      · have hne : (⟨x0, x1, x2, x3⟩ : Cl) ≠ ⟨v0, v1, v2, v3⟩ := of_decide_eq_false HBE.out
        have HQ' : Hid (∀ q, q < j + 1 → cls xs q ≠ ⟨v0, v1, v2, v3⟩) := fun q hq => by
          rcases Nat.lt_or_ge q j with h | h
          · exact HQ q h
          · obtain rfl : q = j := by omega
            rw [HCL.out]; exact hne
        clear hne HX HQ
        go_wp2_with fail
        exact ⟨⟨j + 1, by omega, by go_num, hb0, hkw, HQ'⟩, by simp [intOf]; omega⟩
      · have hix := HX.out (of_decide_eq_true HBE.out) HQ.out
        subst hix
        clear HX HQ HBE hb0
        go_wp2_with fail
        go_ret
        exact ⟨rfl, hkw⟩
    · obtain rfl : j = n := by omega
      have hix := HNO.out HQ.out
      subst hix
      clear HAT HNO HQ E hb0
      go_wp2_with fail
      go_ret
      exact ⟨rfl, hkw⟩
theorem contains_c (A : Option Addr) (cap n : Nat) (xs : List Int) (v : Cl) (hl : xs.length = 4 * n) (w : World) (hr : Rd .u64 w A xs) : Calls Tryz.prog 45 #[.slice A n cap, v.v] w (Ret (.bool (contv xs n v)) w) := by
  have I := fun w1 a => index_c A cap n xs v hl w1 a
  have hb := idxv_cont xs n v
  have HB := Lib.hid hb
  clear hb
  generalize idxv xs n v = ix at *
  generalize contv xs n v = cb at *
  have hb0 := cl_cells (blk_new w v.cells)
  have ka := kept_alloc (kept_refl w) v.cells
  obtain ⟨v0, v1, v2, v3⟩ := v
  dsimp only [Cl.v, Cl.cells] at hb0 ka I
  obtain ⟨c0, c1, c2, c3⟩ := hb0
  have I := I _ (hr.kept ka)
  go_enter Tryz.func45, Tryz.ntmps45
  go_wp2_with fail
  refine I.mono ?_
  rintro e w1 ⟨rfl, hk1⟩
  clear I c0 c1 c2 c3
  go_wp2_with fail
  go_ret
  exact ⟨by rw [← HB.out]; rfl, kept_trans ka hk1⟩
end Go.Proofs.YtdejablhpljdfaaGreat
namespace Go.Proofs.YtdejablhpljdfaaGreat
open Go.RowKit BG
attribute [local go_sem ↓] Go.wp_at_zero Go.wp_at_succ
set_option linter.unusedVariables false
abbrev leafV (A : Option Addr) (n cap : Nat) (K : Int) : Value := .agg #[.slice A n cap, .int .i64 K]
def rightv (xs : List Int) (n : Nat) (K : Int) : Bool := decide (1 ≤ n) && decide (n ≤ 64) && !contv xs n zerov && decide (0 ≤ K) && decide (K ≤ 64)
set_option maxRecDepth 100000 in
set_option maxHeartbeats 4000000 in
theorem right_c (A : Option Addr) (cap n : Nat) (xs : List Int) (K : Int) (hl : xs.length = 4 * n) (w : World) (hr : Rd .u64 w A xs) : Calls Tryz.prog 21 #[leafV A n cap K] w (Ret (.bool (rightv xs n K)) w) := by
  have hm := hr.1
  have C := fun w1 a => contains_c A cap n xs zerov hl w1 a
  unfold rightv
  generalize contv xs n zerov = em at *
  have hb := blk_new w (.cells #[.slice A n cap, .int .i64 K] 61)
  have ka := kept_alloc (kept_refl w) (.cells #[.slice A n cap, .int .i64 K] 61)
  have C := C _ (hr.kept ka)
  dsimp only [Cl.v, zerov] at C
  have PRE : ∀ Z : Prop, Z → Z := fun _ h => h
  by_cases hn1 : 1 ≤ n
  · by_cases hn2 : n ≤ 64
    · cases em
      · by_cases hp1 : 0 ≤ K
        · by_cases hp2 : K ≤ 64
          · go_enter Tryz.func21, Tryz.ntmps21
            go_wp2_with fail
            refine C.mono ?_
            rintro e w1 ⟨rfl, hk1⟩
            replace hb := blk_kept hk1 hb
            have c0 : w1.cell? ⟨w.heap.size, 0, none⟩ = some (.slice A n cap) := blk_cell hb 0
            have c1 : w1.cell? ⟨w.heap.size, 1, none⟩ = some (.int .i64 K) := blk_cell hb 1
            clear C hb
            go_wp2_with fail
            go_ret
            clear c0 c1 hr hl PRE
            exact ⟨by first | (simp; done) | (simp; omega) | (simp_all; done) | (simp_all; omega), kept_trans ka hk1⟩
          · go_enter Tryz.func21, Tryz.ntmps21
            go_wp2_with fail
            refine C.mono ?_
            rintro e w1 ⟨rfl, hk1⟩
            replace hb := blk_kept hk1 hb
            have c0 : w1.cell? ⟨w.heap.size, 0, none⟩ = some (.slice A n cap) := blk_cell hb 0
            have c1 : w1.cell? ⟨w.heap.size, 1, none⟩ = some (.int .i64 K) := blk_cell hb 1
            clear C hb
            go_wp2_with fail
            go_ret
            clear c0 c1 hr hl PRE
            exact ⟨by first | (simp; done) | (simp; omega) | (simp_all; done) | (simp_all; omega), kept_trans ka hk1⟩
        · go_enter Tryz.func21, Tryz.ntmps21
          go_wp2_with fail
          refine C.mono ?_
          rintro e w1 ⟨rfl, hk1⟩
          replace hb := blk_kept hk1 hb
          have c0 : w1.cell? ⟨w.heap.size, 0, none⟩ = some (.slice A n cap) := blk_cell hb 0
          have c1 : w1.cell? ⟨w.heap.size, 1, none⟩ = some (.int .i64 K) := blk_cell hb 1
          clear C hb
          go_wp2_with fail
          go_ret
          clear c0 c1 hr hl PRE
          exact ⟨by first | (simp; done) | (simp; omega) | (simp_all; done) | (simp_all; omega), kept_trans ka hk1⟩
      · go_enter Tryz.func21, Tryz.ntmps21
        go_wp2_with fail
        refine C.mono ?_
        rintro e w1 ⟨rfl, hk1⟩
        replace hb := blk_kept hk1 hb
        have c0 : w1.cell? ⟨w.heap.size, 0, none⟩ = some (.slice A n cap) := blk_cell hb 0
        have c1 : w1.cell? ⟨w.heap.size, 1, none⟩ = some (.int .i64 K) := blk_cell hb 1
        clear C hb
        go_wp2_with fail
        go_ret
        clear c0 c1 hr hl PRE
        exact ⟨by first | (simp; done) | (simp; omega) | (simp_all; done) | (simp_all; omega), kept_trans ka hk1⟩
    · go_enter Tryz.func21, Tryz.ntmps21
      go_wp2_with fail
      refine C.mono ?_
      rintro e w1 ⟨rfl, hk1⟩
      replace hb := blk_kept hk1 hb
      have c0 : w1.cell? ⟨w.heap.size, 0, none⟩ = some (.slice A n cap) := blk_cell hb 0
      have c1 : w1.cell? ⟨w.heap.size, 1, none⟩ = some (.int .i64 K) := blk_cell hb 1
      clear C hb
      go_wp2_with fail
      go_ret
      clear c0 c1 hr hl PRE
      exact ⟨by first | (simp; done) | (simp; omega) | (simp_all; done) | (simp_all; omega), kept_trans ka hk1⟩
  · go_enter Tryz.func21, Tryz.ntmps21
    go_wp2_with fail
    refine C.mono ?_
    rintro e w1 ⟨rfl, hk1⟩
    replace hb := blk_kept hk1 hb
    have c0 : w1.cell? ⟨w.heap.size, 0, none⟩ = some (.slice A n cap) := blk_cell hb 0
    have c1 : w1.cell? ⟨w.heap.size, 1, none⟩ = some (.int .i64 K) := blk_cell hb 1
    clear C hb
    go_wp2_with fail
    go_ret
    clear c0 c1 hr hl PRE
    exact ⟨by first | (simp; done) | (simp; omega) | (simp_all; done) | (simp_all; omega), kept_trans ka hk1⟩
end Go.Proofs.YtdejablhpljdfaaGreat
namespace Go.Proofs.YtdejablhpljdfaaGreat
open Go.RowKit BG
attribute [local go_sem ↓] Go.wp_at_zero Go.wp_at_succ
set_option linter.unusedVariables false
def freev (x : Cl) : Bool := decide (x = fullv)
def okel (x : Cl) : Bool := (sgl x).2 || freev x
def plainv (xs : List Int) (n : Nat) : Bool := (List.range n).all fun j => okel (cls xs j)
theorem plainv_no {xs : List Int} {n j : Nat} (hj : j < n) (h : okel (cls xs j) = false) : plainv xs n = false := by
  unfold plainv
  rw [List.all_eq_false]
  exact ⟨j, List.mem_range.2 hj, by rw [h]; decide⟩
theorem plainv_yes {xs : List Int} {n : Nat} (h : ∀ j, j < n → okel (cls xs j) = true) : plainv xs n = true := by
  unfold plainv
  rw [List.all_eq_true]
  exact fun j hj => h j (List.mem_range.1 hj)
theorem contv_yes {xs : List Int} {n j : Nat} {v : Cl} (hj : j < n) (h : cls xs j = v) : contv xs n v = true := by
  unfold contv
  rw [List.any_eq_true]
  exact ⟨j, List.mem_range.2 hj, decide_eq_true h⟩
theorem contv_no {xs : List Int} {n : Nat} {v : Cl} (h : ∀ j, j < n → cls xs j ≠ v) : contv xs n v = false := by
  unfold contv
  rw [List.any_eq_false]
  exact fun j hj => by simpa using h j (List.mem_range.1 hj)
set_option maxHeartbeats 2000000 in
theorem free_c (x : Cl) (hx : x.ok) (w : World) : Calls Tryz.prog 50 #[x.v] w (Ret (.bool (freev x)) w) := by
  have F := fun w1 => full_c w1
  have E := fun w1 => eqCl x fullv w1
  unfold freev
  generalize decide (x = fullv) = b at *
  have hb := cl_cells (blk_new w x.cells)
  have ka := kept_alloc (kept_refl w) x.cells
  obtain ⟨x0, x1, x2, x3⟩ := x
  dsimp only [Cl.v, Cl.cells, fullv] at hb ka E F
  obtain ⟨c0, c1, c2, c3⟩ := hb
  go_enter Tryz.func50, Tryz.ntmps50
  go_wp2_with fail
  have ks_0 := fun s => kw_cell s c0
  have ks_1 := fun s => kw_cell s c1
  have ks_2 := fun s => kw_cell s c2
  have ks_3 := fun s => kw_cell s c3
  refine wp_region_kept (by kernel_rfl) (by kernel_rfl) ?_
  repeat (first | go_big_quiet_skip | (go_big_quiet_want; go_big_quiet_op; first | go_big_quiet_on | (apply Exists.intro; refine ⟨fun s => ?_, ?_⟩; (first | (go_at_call 95; exact call_kept (F _))); go_big_quiet_on)))
  refine wpQuiet_nil ?_
  rintro w7 ⟨⟨_, hk7⟩, rfl⟩
  clear ks_0 ks_1 ks_2 ks_3 c0 c1 c2 c3 E F
  go_wp2_with fail
  go_ret
  exact ⟨rfl, kept_trans ka hk7⟩
set_option maxRecDepth 100000 in
set_option maxHeartbeats 4000000 in
theorem plain_c (A : Option Addr) (cap n : Nat) (xs : List Int) (K : Int) (hu : U64 xs) (hl : xs.length = 4 * n) (w : World) (hr : Rd .u64 w A xs) : Calls Tryz.prog 24 #[leafV A n cap K] w (Ret (.bool (plainv xs n)) w) := by
  have hm := hr.1
  have hno := fun j => plainv_no (xs := xs) (n := n) (j := j)
  have hyes := plainv_yes (xs := xs) (n := n)
  have HNO := Lib.hid hno
  have HYES := Lib.hid hyes
  generalize plainv xs n = pv at *
  clear hno hyes
  have hb := blk_new w (.cells #[.slice A n cap, .int .i64 K] 61)
  have ka := kept_alloc (kept_refl w) (.cells #[.slice A n cap, .int .i64 K] 61)
  have S := fun j w1 => single_c (cls xs j) (cls_ok hu j) w1
  have F := fun j w1 => free_c (cls xs j) (cls_ok hu j) w1
  go_enter Tryz.func24, Tryz.ntmps24
  go_wp2_with fail
  go_loopw [10] (fun i wr => ∃ j : Nat, j ≤ n ∧ i = .int .i64 j ∧ Kept w wr ∧ Hid (∀ q, q < j → okel (cls xs q) = true)) (fun i _ => n - (intOf i).toNat)
  case atStart => exact ⟨0, Nat.zero_le _, rfl, ka, fun q hq => absurd hq (Nat.not_lt_zero q)⟩
  case round =>
    clear hb ka
    obtain ⟨j, hj, rfl, hkw, HQ⟩ := hrel
    by_cases hlt : j < n
    · have S := S j
      have F := F j
      have hno := HNO.out j hlt
      obtain ⟨ad, rfl, d0, d1, d2, d3⟩ := (hr.kept hkw).cl hl hlt
      have hok : okel (cls xs j) = ((sgl (cls xs j)).2 || freev (cls xs j)) := rfl
      have HNO2 := Lib.hid hno
      have HOK := Lib.hid hok
      have HQ2 : Hid (okel (cls xs j) = true → Hid (∀ q, q < j + 1 → okel (cls xs q) = true)) := fun ho q hq => by
        rcases Nat.lt_or_ge q j with h | h
        · exact HQ q h
        · obtain rfl : q = j := by omega
          exact ho
      clear hno hok HNO HYES
      generalize hfv : freev (cls xs j) = fv at *
      generalize hsg : sgl (cls xs j) = sg at *
      generalize hokv : okel (cls xs j) = okv at *
      clear hfv hsg hokv
      generalize cls xs j = x at *
      obtain ⟨x0, x1, x2, x3⟩ := x
      obtain ⟨s1, s2⟩ := sg
      dsimp only [Cl.v] at d0 d1 d2 d3 S F
      have kb := kept_alloc (kept_refl wr) (.cells #[.int .u64 x0, .int .u64 x1, .int .u64 x2, .int .u64 x3] 110)
      have hb := blk_new wr (.cells #[.int .u64 x0, .int .u64 x1, .int .u64 x2, .int .u64 x3] 110)
      go_wp2_with fail
      refine (S _).mono ?_
      rintro e w1 ⟨rfl, hk1⟩
      replace hkw := kept_trans hkw (kept_trans kb hk1)
      replace hb := blk_kept hk1 hb
      have c0 : w1.cell? ⟨wr.heap.size, 0, none⟩ = some (.int .u64 x0) := blk_cell hb 0
      have c1 : w1.cell? ⟨wr.heap.size, 1, none⟩ = some (.int .u64 x1) := blk_cell hb 1
      have c2 : w1.cell? ⟨wr.heap.size, 2, none⟩ = some (.int .u64 x2) := blk_cell hb 2
      have c3 : w1.cell? ⟨wr.heap.size, 3, none⟩ = some (.int .u64 x3) := blk_cell hb 3
      clear d0 d1 d2 d3 S hk1 hb kb
      cases s2
      · cases fv
        · go_wp2_with fail
          refine (F _).mono ?_
          rintro e w2 ⟨rfl, hk2⟩
          obtain rfl : pv = false := HNO2.out HOK.out
          clear c0 c1 c2 c3 F HQ2 HQ
          go_wp2_with fail
          go_ret
          exact ⟨rfl, kept_trans hkw hk2⟩
        · go_wp2_with fail
          refine (F _).mono ?_
          rintro e w2 ⟨rfl, hk2⟩
          have HQ3 := HQ2.out HOK.out
          clear c0 c1 c2 c3 F HQ2 HQ
          go_wp2_with fail
          exact ⟨⟨j + 1, by omega, by go_num, kept_trans hkw hk2, HQ3⟩, by simp [intOf]; omega⟩
      · have HQ3 := HQ2.out HOK.out
        clear F HQ2 HQ
        go_wp2_with fail
        exact ⟨⟨j + 1, by omega, by go_num, hkw, HQ3⟩, by simp [intOf]; omega⟩
    · obtain rfl : j = n := by omega
      obtain rfl : pv = true := HYES.out HQ.out
      clear S F HNO HYES HQ
      go_wp2_with fail
      go_ret
      exact ⟨rfl, hkw⟩
end Go.Proofs.YtdejablhpljdfaaGreat
namespace Go.Proofs.YtdejablhpljdfaaGreat
open Go.RowKit BG
attribute [local go_sem ↓] Go.wp_at_zero Go.wp_at_succ
set_option linter.unusedVariables false
theorem step_call {P : Program} {w : World} {ops : Array Oper} {o : Oper} {a : Act} {K : Act → World → Prop} {Q : Exit → Act → World → Prop} {E : Prop} (hgd : o.guard = none) (f : FuncId) (xs : Array Operand) (ts : Array TypeId)
    (ho : o.op = .call { callee := .value (.func f), args := xs, argTypes := ts }) (args : Array Value) (hx : xs.map a.eval = args) (eg : ∀ args w, (callFunc f args).run P w = .ok (.enter f args) w) (v : Value) (C : Calls P f args w (Ret v w)) (h : ∀ w', Kept w w' → K (a.put o.dst v) w') :
    if Region.wanted o (yielded ops a.tmps) = true then Oper.wp P o a w K Q else E := by
  have hw : Region.wanted o (yielded ops a.tmps) = true := by simp [Region.wanted, hgd]
  rw [if_pos hw]
  unfold Oper.wp execOp
  simp only [ho, resolve, hx]
  simp [go_sem, eg, Oper.upon]
  exact C.mono fun e w' ⟨he, hk⟩ => by subst he; exact h w' hk
theorem info_class : (Tryz.prog.info? 110).map (fun i => (i.zero, i.size, i.bytes)) = some (some (.agg #[.int .u64 0, .int .u64 0, .int .u64 0, .int .u64 0]), 4, 32) := by kernel_rfl
theorem own_farN {w : World} {base n size : Nat} {e : TypeId} {v : Value} {xs : List Value} (h : w.ownsRow base e size v n xs) {g : Nat} (hg : g < base) : some g ≠ v.ownBlock := fun e => by have := (World.ownsRow.lt h g e.symm).1; omega
theorem ownN_set {w : World} {base n size : Nat} {e : TypeId} {v : Value} {xs : List Value} (h : w.ownsRow base e size v n xs) {p : Addr} (hp : p.block < base) (u : Value) : (w.setCell p u).ownsRow base e size v n xs :=
  World.ownsRow.kept h (⟨rfl, rfl, rfl, by simp, fun i hi hne => Below.heap_setCell w p u i fun e => hne (by rw [e])⟩ : w.grownBy (w.setCell p u) (some p.block)) (by
    cases e : v.ownBlock with
    | none => exact .inl rfl
    | some g => exact .inr fun e2 => by cases e2; have := (World.ownsRow.lt h _ e).1; omega)
theorem ownN_rd {w : World} {base n size : Nat} {e : TypeId} {v : Value} {xs : List Int} (h : w.ownsRow base e size v n (xs.map (Value.int .u64))) (hl : xs.length = size * n) (hb : xs.length ≤ 9223372036854775807) : ∃ A cap, v = .slice A n cap ∧ n ≤ cap ∧ Rd .u64 w A xs := by
  rcases h.2 with ⟨rfl, h0⟩ | ⟨g, cap, cur, e1, _, hg, hc, hm, hcur⟩
  · have h1 := h.1
    subst h0
    have hx : xs = [] := by
      rw [List.length_map, Nat.zero_mul] at h1
      exact List.length_eq_zero_iff.1 h1
    subst hx
    exact ⟨none, 0, rfl, Nat.le_refl _, Rd.nil _ _ _⟩
  · subst e1
    refine ⟨_, cap, rfl, hc, hb, fun _ => ⟨_, rfl, fun j hj => World.ownsRow.cells h (g := g) rfl j _ ?_⟩⟩
    rw [List.getElem?_map, List.getElem?_eq_getElem hj, Option.map_some, nth_lt hj]
theorem step_call1 {P : Program} {w : World} {ops : Array Oper} {o : Oper} {a : Act} {K : Act → World → Prop} {Q : Exit → Act → World → Prop} {E : Prop} (hgd : o.guard = none) (f : FuncId) (x : Operand) (ts : Array TypeId)
    (ho : o.op = .call { callee := .value (.func f), args := #[x], argTypes := ts }) (u : Value) (hx : a.eval x = u) (eg : ∀ args w, (callFunc f args).run P w = .ok (.enter f args) w) (v : Value) (C : Calls P f #[u] w (Ret v w)) (h : ∀ w', Kept w w' → K (a.put o.dst v) w') :
    if Region.wanted o (yielded ops a.tmps) = true then Oper.wp P o a w K Q else E :=
  step_call hgd f #[x] ts ho #[u] (by simp [hx]) eg v C h
def clL (x : Cl) : List Int := [x.a, x.b, x.c, x.d]
def txtT (s : ByteArray) (n : Nat) : List Int := (List.range n).flatMap fun j => clL (onlyv (byteAt s j))
theorem txtT_succ (s : ByteArray) (n : Nat) : txtT s (n + 1) = txtT s n ++ clL (onlyv (byteAt s n)) := by unfold txtT; rw [List.range_succ, List.flatMap_append]; simp
theorem txtT_length (s : ByteArray) : ∀ n, (txtT s n).length = 4 * n := by
  intro n
  induction n with
  | zero => rfl
  | succ n ih => rw [txtT_succ, List.length_append, ih]; simp [clL]; omega
theorem nth_append_r {xs ys : List Int} {j : Nat} (h : xs.length ≤ j) : nth (xs ++ ys) j = nth ys (j - xs.length) := by
  unfold nth; rw [List.getD_eq_getElem?_getD, List.getElem?_append_right h, ← List.getD_eq_getElem?_getD]
theorem extract_one {s : ByteArray} {i : Nat} (h : i < s.size) : (s.extract i (i + 1)).size = 1 ∧ byteAt (s.extract i (i + 1)) 0 = byteAt s i := by
  have hs : (s.extract i (i + 1)).size = 1 := by rw [ByteArray.size_extract]; omega
  refine ⟨hs, ?_⟩
  unfold byteAt
  rw [dif_pos (by rw [hs]; decide), dif_pos h, ByteArray.getElem_extract]
  rfl
theorem ofT_one {s : ByteArray} {i : Nat} (h : i < s.size) : ofT (s.extract i (i + 1)) (s.extract i (i + 1)).size = onlyv (byteAt s i) := by
  obtain ⟨h1, h2⟩ := extract_one h
  rw [h1]
  show withv zerov (byteAt _ 0) = _
  rw [h2]
  rfl
set_option maxRecDepth 100000 in
set_option maxHeartbeats 4000000 in
theorem text_c (s : ByteArray) (k : Int) (hsz : s.size ≤ 1000000) (w : World) : Calls Tryz.prog 25 #[.string s, .int .i64 k] w fun e w' => ∃ A cap, e = .returned (leafV A s.size cap k) ∧ Rd .u64 w' A (txtT s s.size) ∧ Kept w w' ∧ s.size ≤ cap := by
  obtain ⟨i1, hif1, hy0, hy1, hy2⟩ := info_parts info_class
  have ka := kept_alloc (kept_alloc (kept_refl w) (.cells #[.slice none 0 0, .int .i64 0] 61)) (.cells #[.slice none 0 0, .int .i64 k] 61)
  have hz := blk_alloc (blk_new w (.cells #[.slice none 0 0, .int .i64 0] 61)) (.cells #[.slice none 0 0, .int .i64 k] 61)
  have hb := blk_new1 w (.cells #[.slice none 0 0, .int .i64 0] 61) (.cells #[.slice none 0 0, .int .i64 k] 61)
  go_enter Tryz.func25, Tryz.ntmps25
  go_wp2_with fail
  go_loopw [11] (fun i wr => ∃ j : Nat, j ≤ s.size ∧ i = .int .i64 j ∧ wr.heap[w.heap.size]? = some (.cells #[.slice none 0 0, .int .i64 0] 61 (0, 0)) ∧ (∃ v, wr.heap[w.heap.size + 1]? = some (.cells #[v, .int .i64 k] 61 (0, 0)) ∧ wr.ownsRow (w.heap.size + 2) 110 4 v j ((txtT s j).map (Value.int .u64))) ∧ Kept w wr ∧ w.heap.size + 2 ≤ wr.heap.size) (fun i _ => s.size - (intOf i).toNat)
  case atStart => exact ⟨0, Nat.zero_le _, rfl, hz, ⟨_, hb, World.ownsRow_nil _ _ _ _⟩, ka, by simp⟩
  case round =>
    clear hz hb ka
    obtain ⟨j, hj, rfl, hz, ⟨v, hb, hown⟩, hkw, hbase⟩ := hrel
    by_cases hlt : j < s.size
    · have O := fun w1 => classOf_c (s.extract j (j + 1)) (by rw [(extract_one hlt).1]; decide) w1
      rw [ofT_one hlt] at O
      have HS := Lib.hid (txtT_succ s j)
      have ce : wr.drew.cell? ⟨w.heap.size + 1, 0, none⟩ = some v := blk_cell hb 0
      generalize onlyv (byteAt s j) = x at *
      obtain ⟨x0, x1, x2, x3⟩ := x
      dsimp only [Cl.v] at O
      have hwr : IntKind.i64.wrap ((j : Int) + 1) = (j : Int) + 1 := by rw [IntKind.wrap_i64]; omega
      have hw1 : 0 ≤ (j : Int) + 1 := by omega
      have hw2 : (j : Int) + 1 ≤ (s.size : Int) := by omega
      have hw3 : (j : Int) ≤ (j : Int) + 1 := by omega
      have hw4 : ((j : Int) + 1).toNat = j + 1 := by omega
      go_wp2_with fail
      go_region_law (first | (refine step_call1 (by rfl) 51 _ _ (by rfl) _ (by rfl) (enters_of Tryz.func51 (by kernel_rfl) rfl) _ (O _) ?_; intro w5 hk5; have ce5 : w5.cell? ⟨w.heap.size + 1, 0, none⟩ = some v := kept_cell hk5 ce; have ce6 : (w5.alloc (.cells #[.int .u64 x0, .int .u64 x1, .int .u64 x2, .int .u64 x3] 110)).cell? ⟨w.heap.size + 1, 0, none⟩ = some v := kept_cell (kept_alloc (kept_refl _) _) ce5) | (refine step_append_lies _ (by rfl) _ _ _ (by rfl) (w.heap.size + 2) 110 i1 _ 4 32 Tryz.underlying59 hif1 hy0 hy1 hy2 rfl (by omega) v j _ (by rfl) (World.ownsRow.alloc (rowKept hown.drew hk5) _) ⟨w5.heap.size, 0, none⟩ 1 1 [.int .u64 x0, .int .u64 x1, .int .u64 x2, .int .u64 x3] (by rfl) (by rfl) (World.news_of_block (cs := #[.int .u64 x0, .int .u64 x1, .int .u64 x2, .int .u64 x3]) (t := 110) (fr := (0, 0)) (heap_alloc_new w5 _)) (by simp [Value.oneCell']) (by omega) (by unfold maxLen; omega) (by omega) (by have h5 := hk5.size; have e5 : wr.drew.heap.size = wr.heap.size := rfl; simp; omega) (w5.heap.size + 1) (by simp) ?_; intro g cap w6 hown6 hgrow hat hlt'; have hb6 : w6.heap[w.heap.size + 1]? = some (.cells #[v, .int .i64 k] 61 (0, 0)) := (hgrow.block (w.heap.size + 1) (by have h5 := hk5.size; have e5 : wr.drew.heap.size = wr.heap.size := rfl; simp; omega) (own_farN hown (by omega))).trans (blk_alloc (blk_kept hk5 hb) _); have D0 : w6.cell? ⟨w.heap.size + 1, 0, none⟩ = some v := blk_cell hb6 0; have F0 := blk_frozen hb6 0))
      all_goals (
        have h5 := hk5.size
        have e5 : wr.drew.heap.size = wr.heap.size := rfl
        have hz6 : w6.heap[w.heap.size]? = some (.cells #[.slice none 0 0, .int .i64 0] 61 (0, 0)) := (hgrow.block w.heap.size (by simp; omega) (own_farN hown (by omega))).trans (blk_alloc (blk_kept hk5 hz) _)
        have K := kept_grown (kept_alloc (kept_trans (kept_drew hkw) hk5) (.cells #[.int .u64 x0, .int .u64 x1, .int .u64 x2, .int .u64 x3] 110)) (World.ownsRow.alloc (rowKept hown.drew hk5) _) (by omega) hgrow
        have hs6 := hgrow.size
        have hs7 : w5.heap.size + 1 ≤ w6.heap.size := by simpa using hs6
        have hb7 := blk_set hb6 0 (.slice (some ⟨g, 0, none⟩) (j + 1) cap)
        have hz7 := blk_far hz6 (p := ⟨w.heap.size + 1, 0, none⟩) (by simp) (.slice (some ⟨g, 0, none⟩) (j + 1) cap)
        have K7 := kept_set K (p := ⟨w.heap.size + 1, 0, none⟩) (by show w.heap.size ≤ w.heap.size + 1; omega) (.slice (some ⟨g, 0, none⟩) (j + 1) cap)
        have o7 := ownN_set hown6 (p := ⟨w.heap.size + 1, 0, none⟩) (by show w.heap.size + 1 < w.heap.size + 2; omega) (.slice (some ⟨g, 0, none⟩) (j + 1) cap)
        have o8 : (w6.setCell ⟨w.heap.size + 1, 0, none⟩ (.slice (some ⟨g, 0, none⟩) (j + 1) cap)).ownsRow (w.heap.size + 2) 110 4 (.slice (some ⟨g, 0, none⟩) (j + 1) cap) (j + 1) ((txtT s (j + 1)).map (Value.int .u64)) := by
          rw [HS.out, List.map_append]
          exact o7
        have s8 : w.heap.size + 2 ≤ (w6.setCell ⟨w.heap.size + 1, 0, none⟩ (.slice (some ⟨g, 0, none⟩) (j + 1) cap)).heap.size := by simp; omega
        clear hown6 hgrow hat hlt' hb6 hz6 K o7 D0 F0 hs6 hs7 O ce
        go_wp2_with fail
        exact ⟨⟨j + 1, by omega, by go_num, hz7, ⟨_, hb7, o8⟩, K7, s8⟩, by simp [intOf]; omega⟩)
    · obtain rfl : j = s.size := by omega
      have hlen := txtT_length s s.size
      have b0 := blk_cell hb 0
      have b1 := blk_cell hb 1
      have z0 := blk_cell hz 0
      have z1 := blk_cell hz 1
      have fz0 := blk_frozen hz 0
      have fz1 := blk_frozen hz 1
      obtain ⟨A, cap, rfl, hcap, _⟩ := ownN_rd hown hlen (by omega)
      have o2 := ownN_set (ownN_set hown (p := ⟨w.heap.size, 0, none⟩) (by show w.heap.size < w.heap.size + 2; omega) (.slice A s.size cap)) (p := ⟨w.heap.size, 1, none⟩) (by show w.heap.size < w.heap.size + 2; omega) (.int .i64 k)
      obtain ⟨A', cap', e', _, rd⟩ := ownN_rd o2 hlen (by omega)
      simp only [Value.slice.injEq] at e'
      rw [← e'.1] at rd
      have K2 := kept_set (kept_set hkw (p := ⟨w.heap.size, 0, none⟩) (Nat.le_refl _) (.slice A s.size cap)) (p := ⟨w.heap.size, 1, none⟩) (Nat.le_refl _) (.int .i64 k)
      clear hown e' o2 hb hz hkw
      go_wp2_with fail
      exact bodyPost_ret (v := leafV A s.size cap k) (by simp [results, Tryz.results25, go_sem, z0, z1]) rfl ⟨A, cap, rfl, rd, K2, hcap⟩
end Go.Proofs.YtdejablhpljdfaaGreat
namespace Go.Proofs.YtdejablhpljdfaaGreat
open Go.RowKit
attribute [local go_sem ↓] Go.wp_at_zero Go.wp_at_succ
set_option linter.unusedVariables false
def sameL (xs ys : List Int) : Bool := decide (xs = ys)
theorem sameL_true {xs ys : List Int} (hl : xs.length = ys.length) (h : ∀ j, j < xs.length → nth xs j = nth ys j) : sameL xs ys = true := by
  simp only [sameL, decide_eq_true_eq]; exact nth_ext hl h
theorem sameL_false {xs ys : List Int} {j : Nat} (h : nth xs j ≠ nth ys j) : sameL xs ys = false := by
  simp only [sameL, decide_eq_false_iff_not]; exact fun e => h (by rw [e])
end Go.Proofs.YtdejablhpljdfaaGreat
namespace Go.Proofs.YtdejablhpljdfaaGreat
open Go.RowKit BG
attribute [local go_sem ↓] Go.wp_at_zero Go.wp_at_succ
set_option linter.unusedVariables false
theorem places_c (A B : Option Addr) (ca cb : Nat) (xs ys : List Int) (w : World) (hx : Rd .i64 w A xs) (hy : Rd .i64 w B ys) :
    Calls Tryz.prog 14 #[.slice A xs.length ca, .slice B ys.length cb] w (Ret (.bool (sameL xs ys)) w) := by
  have hm := hx.1
  by_cases hl : xs.length = ys.length
  · have HL := Lib.hid hl
    have hlb : ((xs.length : Int) == (ys.length : Int)) = true := by simp [hl]
    have hlc : ((xs.length : Int) != (ys.length : Int)) = false := by simp [hl]
    clear hl
    go_enter Tryz.func14, Tryz.ntmps14
    go_wp2_with fail
    go_loopw [5] (fun i wr => ∃ j : Nat, j ≤ xs.length ∧ i = .int .i64 j ∧ Kept w wr ∧ Hid (∀ q, q < j → nth xs q = nth ys q)) (fun i _ => xs.length - (intOf i).toNat)
    case atStart => exact ⟨0, Nat.zero_le _, rfl, kept_refl _, fun q hq => absurd hq (Nat.not_lt_zero q)⟩
    case round =>
      obtain ⟨j, hj, rfl, hk, HQ⟩ := hrel
      by_cases hlt : j < xs.length
      · have hlt2 : j < ys.length := by have := HL.out; omega
        obtain ⟨ad, rfl, hc1⟩ := (hx.kept hk).at_ hlt
        obtain ⟨bd, rfl, hc2⟩ := (hy.kept hk).at_ hlt2
        by_cases he : nth xs j = nth ys j
        · have h1 : (nth xs j == nth ys j) = true := by simp [he]
          have h2 : (nth xs j != nth ys j) = false := by simp [he]
          have HE := Lib.hid he
          clear he
          go_wp2_with fail
          go_quiet (fail)
          go_wp2_with fail
          go_roundw
          case rel => exact ⟨j + 1, by omega, by go_num, kept_drewN hk _, fun q hq => by
            rcases Nat.lt_or_ge q j with h | h
            · exact HQ q h
            · obtain rfl : q = j := by omega
              exact HE.out⟩
          case measure => simp [intOf]; omega
        · have h1 : (nth xs j == nth ys j) = false := by simp [he]
          have h2 : (nth xs j != nth ys j) = true := by simp [he]
          have hs := sameL_false he
          have HS := Lib.hid hs
          clear he hs
          go_wp2_with fail
          go_quiet (fail)
          go_wp2_with fail
          go_ret
          exact ⟨by rw [HS.out]; rfl, kept_drewN hk _⟩
      · obtain rfl : j = xs.length := by omega
        have hs : sameL xs ys = true := sameL_true HL.out HQ
        have HS := Lib.hid hs
        clear hs
        go_wp2_with fail
        go_ret
        exact ⟨by rw [HS.out]; rfl, hk⟩
  · have hlb : ((xs.length : Int) == (ys.length : Int)) = false := by rw [beq_eq_false_iff_ne]; omega
    have hlc : ((xs.length : Int) != (ys.length : Int)) = true := by rw [bne_iff_ne]; omega
    have hs : sameL xs ys = false := by simp only [sameL, decide_eq_false_iff_not]; exact fun e => hl (by rw [e])
    rw [hs]
    clear hs hl
    go_enter Tryz.func14, Tryz.ntmps14
    go_wp2_with fail
    go_ret
    exact ⟨rfl, kept_refl _⟩
end Go.Proofs.YtdejablhpljdfaaGreat
namespace Go.Proofs.YtdejablhpljdfaaGreat
open Go.RowKit BG
attribute [local go_sem ↓] Go.wp_at_zero Go.wp_at_succ
set_option linter.unusedVariables false
theorem info_i64c : (Tryz.prog.info? 3).map (fun i => (i.zero, i.size, i.bytes)) = some (some (.int .i64 0), 1, 8) := by kernel_rfl
def misses (xs : List Int) (s : ByteArray) (i j : Nat) : Bool := !hasv (cls xs j) (byteAt s (i + j))
def missv (xs : List Int) (n : Nat) (s : ByteArray) (i : Nat) : Nat := (List.range n).countP (misses xs s i)
theorem missv_le (xs : List Int) (n : Nat) (s : ByteArray) (i : Nat) : missv xs n s i ≤ n := by
  have := List.countP_le_length (p := misses xs s i) (l := List.range n)
  rwa [List.length_range] at this
end Go.Proofs.YtdejablhpljdfaaGreat
namespace Go.Proofs.YtdejablhpljdfaaGreat
open Go.RowKit BG
attribute [local go_sem ↓] Go.wp_at_zero Go.wp_at_succ
set_option linter.unusedVariables false
theorem own_snoc {k : IntKind} {e : TypeId} {base : Nat} {w : World} {v : Value} {xs : List Int} {x : Int} (h : w.ownsRow base e 1 v (xs.length + 1) (xs.map (Value.int k) ++ [Value.int k x])) : Own k e base w v (xs ++ [x]) := by
  unfold Own
  rw [List.length_append, List.map_append]
  exact h
def missF (xs : List Int) (n : Nat) (s : ByteArray) (i : Nat) : Int := (missv xs n s i : Nat)
def countsv (xs : List Int) (n : Nat) (K : Int) (s : ByteArray) : List Int := if rightv xs n K = true then mk (s.size + 1 - n) (missF xs n s) else []
def hitsT (ys : List Int) (k : Int) (q : Nat) : List Int := ((List.range q).filter fun i => decide (nth ys i ≤ k)).map fun i : Nat => (i : Int)
def hitsv (ys : List Int) (k : Int) : List Int := hitsT ys k ys.length
theorem hitsT_yes {ys : List Int} {k : Int} {q : Nat} (h : nth ys q ≤ k) : hitsT ys k (q + 1) = hitsT ys k q ++ [(q : Int)] := by
  unfold hitsT
  rw [List.range_succ, List.filter_append, List.map_append]
  simp [h]
theorem hitsT_no {ys : List Int} {k : Int} {q : Nat} (h : ¬ nth ys q ≤ k) : hitsT ys k (q + 1) = hitsT ys k q := by
  unfold hitsT
  rw [List.range_succ, List.filter_append, List.map_append]
  simp [h]
theorem hitsT_len (ys : List Int) (k : Int) (q : Nat) : (hitsT ys k q).length ≤ q := by
  unfold hitsT
  rw [List.length_map]
  have := List.length_filter_le (fun i => decide (nth ys i ≤ k)) (List.range q)
  rwa [List.length_range] at this
end Go.Proofs.YtdejablhpljdfaaGreat
