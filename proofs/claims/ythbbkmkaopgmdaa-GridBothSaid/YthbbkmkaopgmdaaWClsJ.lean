/-
  Layer 6 (class): is a byte in a class? A class with a byte; the others; all.
-/
import Derived.Test.YthbbkmkaopgmdaaEq
import Derived.Test.YthbbkmkaopgmdaaSl
import Derived.Laws.BitsAllLaws
import Derived.Test.YthbbkmkaopgmdaaTail
import Derived.Test.YthbbkmkaopgmdaaWNttJ
import Derived.RangeFuncBox
namespace Go.Proofs.Ythbbkmkaopgmdaa
open Go.RowKit BG
attribute [local go_sem ↓] Go.wp_at_zero Go.wp_at_succ
set_option linter.unusedVariables false

/-- A class: its four words. -/
structure Cl where
  (a b c d : Int)
deriving DecidableEq
abbrev Cl.v (x : Cl) : Value := .agg #[.int .u64 x.a, .int .u64 x.b, .int .u64 x.c, .int .u64 x.d]
abbrev Cl.cells (x : Cl) : Obj := .cells #[.int .u64 x.a, .int .u64 x.b, .int .u64 x.c, .int .u64 x.d] 61
def u64b (z : Int) : Prop := 0 ≤ z ∧ z ≤ 18446744073709551615
def Cl.ok (x : Cl) : Prop := u64b x.a ∧ u64b x.b ∧ u64b x.c ∧ u64b x.d
def bitv (z : Int) (k : Nat) : Bool := z / 2 ^ k % 2 == 1
def Cl.wd (x : Cl) (i : Nat) : Int := if i = 0 then x.a else if i = 1 then x.b else if i = 2 then x.c else x.d
def hasv (x : Cl) (b : Nat) : Bool := bitv (x.wd (b / 64)) (b % 64)
theorem cl_and_one {z : Int} (h : u64b z) : bits .and .u64 z 1 = z % 2 := by
  rw [u64_and z 1 h.1 (by have := h.2; omega) (by decide) (by decide), show (1 : Int).toNat = 1 from rfl, Nat.and_one_is_mod]
  have := h.1
  omega
theorem shr_bd {z : Int} (h : u64b z) (k : Nat) : u64b (z / 2 ^ k) := by
  have hp : (0 : Int) < 2 ^ k := Int.pow_pos (by decide)
  exact ⟨Int.ediv_nonneg h.1 (by omega), Int.le_trans (Int.ediv_le_self _ h.1) h.2⟩
/-- A word with a bit. -/
def orb (z : Int) (k : Nat) : Int := ((z.toNat ||| 2 ^ k : Nat) : Int)
theorem orb_bd {z : Int} (h : u64b z) {k : Nat} (hk : k < 64) : u64b (orb z k) := by
  have h1 : z.toNat < 2 ^ 64 := by have := h.1; have := h.2; omega
  have h2 : 2 ^ k < 2 ^ 64 := Nat.pow_lt_pow_right (by decide) hk
  have := Nat.or_lt_two_pow h1 h2
  unfold orb
  exact ⟨Int.natCast_nonneg _, by omega⟩
theorem bits_or {z : Int} (h : u64b z) {k : Nat} (hk : k < 64) : bits .or .u64 z (IntKind.u64.wrap (2 ^ k)) = orb z k := by
  have h2 : 2 ^ k < 2 ^ 64 := Nat.pow_lt_pow_right (by decide) hk
  have e : ((2 : Int) ^ k) = ((2 ^ k : Nat) : Int) := by rw [Int.natCast_pow]; rfl
  unfold orb
  rw [e]
  generalize 2 ^ k = P at *
  have hw : IntKind.u64.wrap (P : Int) = (P : Int) := by rw [IntKind.wrap_u64]; omega
  rw [hw, u64_or z _ h.1 (by have := h.2; omega) (by omega) (by omega)]
  rw [Int.toNat_natCast]
def Cl.setw (x : Cl) (i : Nat) (z : Int) : Cl := if i = 0 then ⟨z, x.b, x.c, x.d⟩ else if i = 1 then ⟨x.a, z, x.c, x.d⟩ else if i = 2 then ⟨x.a, x.b, z, x.d⟩ else ⟨x.a, x.b, x.c, z⟩
def withv (x : Cl) (b : Nat) : Cl := x.setw (b / 64) (orb (x.wd (b / 64)) (b % 64))
def zerov : Cl := ⟨0, 0, 0, 0⟩
theorem bits_not {z : Int} (h : u64b z) : bits .xor .u64 18446744073709551615 z = 18446744073709551615 - z := by
  rw [u64_xor _ z (by decide) (by decide) h.1 (by have := h.2; omega)]
  have h1 : z.toNat < 2 ^ 64 := by have := h.1; have := h.2; omega
  rw [show (18446744073709551615 : Int).toNat = 2 ^ 64 - 1 from rfl, Nat.xor_comm, ← Nat.xor_comm]
  have : (2 ^ 64 - 1) ^^^ z.toNat = 2 ^ 64 - 1 - z.toNat := by
    have e := BitVec.toNat_not (x := BitVec.ofNat 64 z.toNat)
    rw [BitVec.not_def, BitVec.toNat_xor] at e
    simp only [BitVec.toNat_allOnes, BitVec.toNat_ofNat, Nat.mod_eq_of_lt h1] at e
    rw [Nat.xor_comm] at e
    rw [Nat.xor_comm]
    exact e
  rw [this]
  have := h.1
  omega
def notv (x : Cl) : Cl := ⟨18446744073709551615 - x.a, 18446744073709551615 - x.b, 18446744073709551615 - x.c, 18446744073709551615 - x.d⟩
def fullv : Cl := ⟨18446744073709551615, 18446744073709551615, 18446744073709551615, 18446744073709551615⟩
theorem notv_ok {x : Cl} (h : x.ok) : (notv x).ok := by
  obtain ⟨h0, h1, h2, h3⟩ := h
  unfold u64b at h0 h1 h2 h3
  refine ⟨?_, ?_, ?_, ?_⟩ <;> (unfold u64b notv; dsimp only; omega)
theorem zerov_ok : zerov.ok := by unfold Cl.ok u64b zerov; decide
theorem fullv_ok : fullv.ok := by unfold Cl.ok u64b fullv; decide
theorem wd_ok {x : Cl} (h : x.ok) (i : Nat) : u64b (x.wd i) := by
  unfold Cl.wd
  obtain ⟨h0, h1, h2, h3⟩ := h
  split
  · exact h0
  · split
    · exact h1
    · split
      · exact h2
      · exact h3
theorem setw_ok {x : Cl} (h : x.ok) (i : Nat) {z : Int} (hz : u64b z) : (x.setw i z).ok := by
  unfold Cl.setw
  obtain ⟨h0, h1, h2, h3⟩ := h
  split
  · exact ⟨hz, h1, h2, h3⟩
  · split
    · exact ⟨h0, hz, h2, h3⟩
    · split
      · exact ⟨h0, h1, hz, h3⟩
      · exact ⟨h0, h1, h2, hz⟩
theorem withv_ok {x : Cl} (h : x.ok) (b : Nat) : (withv x b).ok := setw_ok h _ (orb_bd (wd_ok h _) (by omega))
theorem cl_cells {w : World} {g : Nat} {x : Cl} (h : w.heap[g]? = some x.cells) : w.cell? ⟨g, 0, none⟩ = some (.int .u64 x.a) ∧ w.cell? ⟨g, 1, none⟩ = some (.int .u64 x.b) ∧ w.cell? ⟨g, 2, none⟩ = some (.int .u64 x.c) ∧ w.cell? ⟨g, 3, none⟩ = some (.int .u64 x.d) := ⟨blk_cell h 0, blk_cell h 1, blk_cell h 2, blk_cell h 3⟩
set_option maxHeartbeats 2000000 in
theorem has_q0 (x : Cl) (hx : x.ok) (b : Nat) (hb : b < 256) (hq : b / 64 = 0) (w : World) : Calls Try.prog 57 #[x.v, .int .u8 (b : Nat)] w (Ret (.bool (hasv x b)) w) := by
  obtain ⟨z0, z1, z2, z3⟩ := x
  obtain ⟨h0, h1, h2, h3⟩ := hx
  have k0 := fun k => cl_and_one (shr_bd h0 k)
  obtain ⟨r, hr⟩ : ∃ r, r = b % 64 := ⟨_, rfl⟩
  obtain ⟨B, hB⟩ : ∃ B : Int, B = b := ⟨_, rfl⟩
  have hm : B % 64 = (r : Int) := by omega
  have hd : B / 64 = 0 := by omega
  have hr64 : r < 64 := by omega
  have hB0 : 0 ≤ B := by omega
  have c0 : (w.alloc (.cells #[.int .u64 z0, .int .u64 z1, .int .u64 z2, .int .u64 z3] 61)).cell? ⟨w.heap.size, 0, none⟩ = some (.int .u64 z0) := blk_cell (blk_new w (.cells #[.int .u64 z0, .int .u64 z1, .int .u64 z2, .int .u64 z3] 61)) 0
  have ka := kept_alloc (kept_refl w) (.cells #[.int .u64 z0, .int .u64 z1, .int .u64 z2, .int .u64 z3] 61)
  unfold hasv
  rw [hq, ← hr, ← hB]
  clear hB hr hq hb
  go_enter Try.func57, Try.ntmps57
  go_wp2_with fail
  go_ret
  exact ⟨rfl, ka⟩
set_option maxHeartbeats 2000000 in
theorem has_q1 (x : Cl) (hx : x.ok) (b : Nat) (hb : b < 256) (hq : b / 64 = 1) (w : World) : Calls Try.prog 57 #[x.v, .int .u8 (b : Nat)] w (Ret (.bool (hasv x b)) w) := by
  obtain ⟨z0, z1, z2, z3⟩ := x
  obtain ⟨h0, h1, h2, h3⟩ := hx
  have k0 := fun k => cl_and_one (shr_bd h1 k)
  obtain ⟨r, hr⟩ : ∃ r, r = b % 64 := ⟨_, rfl⟩
  obtain ⟨B, hB⟩ : ∃ B : Int, B = b := ⟨_, rfl⟩
  have hm : B % 64 = (r : Int) := by omega
  have hd : B / 64 = 1 := by omega
  have hr64 : r < 64 := by omega
  have hB0 : 0 ≤ B := by omega
  have c0 : (w.alloc (.cells #[.int .u64 z0, .int .u64 z1, .int .u64 z2, .int .u64 z3] 61)).cell? ⟨w.heap.size, 1, none⟩ = some (.int .u64 z1) := blk_cell (blk_new w (.cells #[.int .u64 z0, .int .u64 z1, .int .u64 z2, .int .u64 z3] 61)) 1
  have ka := kept_alloc (kept_refl w) (.cells #[.int .u64 z0, .int .u64 z1, .int .u64 z2, .int .u64 z3] 61)
  unfold hasv
  rw [hq, ← hr, ← hB]
  clear hB hr hq hb
  go_enter Try.func57, Try.ntmps57
  go_wp2_with fail
  go_ret
  exact ⟨rfl, ka⟩
set_option maxHeartbeats 2000000 in
theorem has_q2 (x : Cl) (hx : x.ok) (b : Nat) (hb : b < 256) (hq : b / 64 = 2) (w : World) : Calls Try.prog 57 #[x.v, .int .u8 (b : Nat)] w (Ret (.bool (hasv x b)) w) := by
  obtain ⟨z0, z1, z2, z3⟩ := x
  obtain ⟨h0, h1, h2, h3⟩ := hx
  have k0 := fun k => cl_and_one (shr_bd h2 k)
  obtain ⟨r, hr⟩ : ∃ r, r = b % 64 := ⟨_, rfl⟩
  obtain ⟨B, hB⟩ : ∃ B : Int, B = b := ⟨_, rfl⟩
  have hm : B % 64 = (r : Int) := by omega
  have hd : B / 64 = 2 := by omega
  have hr64 : r < 64 := by omega
  have hB0 : 0 ≤ B := by omega
  have c0 : (w.alloc (.cells #[.int .u64 z0, .int .u64 z1, .int .u64 z2, .int .u64 z3] 61)).cell? ⟨w.heap.size, 2, none⟩ = some (.int .u64 z2) := blk_cell (blk_new w (.cells #[.int .u64 z0, .int .u64 z1, .int .u64 z2, .int .u64 z3] 61)) 2
  have ka := kept_alloc (kept_refl w) (.cells #[.int .u64 z0, .int .u64 z1, .int .u64 z2, .int .u64 z3] 61)
  unfold hasv
  rw [hq, ← hr, ← hB]
  clear hB hr hq hb
  go_enter Try.func57, Try.ntmps57
  go_wp2_with fail
  go_ret
  exact ⟨rfl, ka⟩
set_option maxHeartbeats 2000000 in
theorem has_q3 (x : Cl) (hx : x.ok) (b : Nat) (hb : b < 256) (hq : b / 64 = 3) (w : World) : Calls Try.prog 57 #[x.v, .int .u8 (b : Nat)] w (Ret (.bool (hasv x b)) w) := by
  obtain ⟨z0, z1, z2, z3⟩ := x
  obtain ⟨h0, h1, h2, h3⟩ := hx
  have k0 := fun k => cl_and_one (shr_bd h3 k)
  obtain ⟨r, hr⟩ : ∃ r, r = b % 64 := ⟨_, rfl⟩
  obtain ⟨B, hB⟩ : ∃ B : Int, B = b := ⟨_, rfl⟩
  have hm : B % 64 = (r : Int) := by omega
  have hd : B / 64 = 3 := by omega
  have hr64 : r < 64 := by omega
  have hB0 : 0 ≤ B := by omega
  have c0 : (w.alloc (.cells #[.int .u64 z0, .int .u64 z1, .int .u64 z2, .int .u64 z3] 61)).cell? ⟨w.heap.size, 3, none⟩ = some (.int .u64 z3) := blk_cell (blk_new w (.cells #[.int .u64 z0, .int .u64 z1, .int .u64 z2, .int .u64 z3] 61)) 3
  have ka := kept_alloc (kept_refl w) (.cells #[.int .u64 z0, .int .u64 z1, .int .u64 z2, .int .u64 z3] 61)
  unfold hasv
  rw [hq, ← hr, ← hB]
  clear hB hr hq hb
  go_enter Try.func57, Try.ntmps57
  go_wp2_with fail
  go_ret
  exact ⟨rfl, ka⟩
theorem has_c (x : Cl) (hx : x.ok) (b : Nat) (hb : b < 256) (w : World) : Calls Try.prog 57 #[x.v, .int .u8 (b : Nat)] w (Ret (.bool (hasv x b)) w) := by
  have hq : b / 64 = 0 ∨ b / 64 = 1 ∨ b / 64 = 2 ∨ b / 64 = 3 := by omega
  rcases hq with h | h | h | h
  · exact has_q0 x hx b hb h w
  · exact has_q1 x hx b hb h w
  · exact has_q2 x hx b hb h w
  · exact has_q3 x hx b hb h w
set_option maxHeartbeats 2000000 in
theorem rhas_q0 (x : Cl) (hx : x.ok) (b : Nat) (hb : b < 256) (hq : b / 64 = 0) (w : World) : Calls Try.prog 58 #[x.v, .int .u8 (b : Nat)] w (Ret (.bool (hasv x b)) w) := by
  obtain ⟨z0, z1, z2, z3⟩ := x
  obtain ⟨h0, h1, h2, h3⟩ := hx
  have hz : u64b z0 := h0
  obtain ⟨r, hr⟩ : ∃ r, r = b % 64 := ⟨_, rfl⟩
  obtain ⟨B, hB⟩ : ∃ B : Int, B = b := ⟨_, rfl⟩
  have hm : B % 64 = (r : Int) := by omega
  have hd : B / 64 = 0 := by omega
  have hr64 : r < 64 := by omega
  have hB0 : 0 ≤ B := by omega
  have hB256 : B ≤ 255 := by omega
  have c0 : (w.alloc (.cells #[.int .u64 z0, .int .u64 z1, .int .u64 z2, .int .u64 z3] 61)).cell? ⟨w.heap.size, 0, none⟩ = some (.int .u64 z0) := blk_cell (blk_new w (.cells #[.int .u64 z0, .int .u64 z1, .int .u64 z2, .int .u64 z3] 61)) 0
  have ka := kept_alloc (kept_refl w) (.cells #[.int .u64 z0, .int .u64 z1, .int .u64 z2, .int .u64 z3] 61)
  unfold hasv
  rw [hq, ← hr]
  have hv : bitv (({ a := z0, b := z1, c := z2, d := z3 } : Cl).wd 0) r = (z0 / 2 ^ r % 2 == 1) := rfl
  rw [hv, ← hB]
  clear hB hr hq hb hv
  go_enter Try.func58, Try.ntmps58
  go_wp2_with fail
  go_loopw [5, 6] (fun y i wr => ∃ k : Nat, k ≤ r ∧ i = .int .i64 k ∧ y = .int .u64 (z0 / 2 ^ k) ∧ Kept w wr) (fun _ i _ => r - (intOf i).toNat)
  case atStart => exact ⟨0, Nat.zero_le _, rfl, by rw [Int.pow_zero, Int.ediv_one], ka⟩
  case round =>
    obtain ⟨k, hk, rfl, rfl, hkw⟩ := hrel
    have hb1 := shr_bd hz k
    unfold u64b at hb1
    by_cases hlt : k < r
    · have hs : z0 / 2 ^ k / 2 = z0 / 2 ^ (k + 1) := by rw [Int.pow_succ, Int.ediv_ediv_of_nonneg (Int.pow_nonneg (by decide))]
      have HS := Lib.hid hs
      clear hs c0
      generalize z0 / 2 ^ k = y at *
      go_wp2_with fail
      exact ⟨⟨k + 1, by omega, by go_num, by rw [HS.out], hkw⟩, by simp [intOf]; omega⟩
    · obtain rfl : k = r := by omega
      clear c0
      generalize z0 / 2 ^ k = y at *
      go_wp2_with fail
      go_ret
      exact ⟨rfl, hkw⟩
set_option maxHeartbeats 2000000 in
theorem rhas_q1 (x : Cl) (hx : x.ok) (b : Nat) (hb : b < 256) (hq : b / 64 = 1) (w : World) : Calls Try.prog 58 #[x.v, .int .u8 (b : Nat)] w (Ret (.bool (hasv x b)) w) := by
  obtain ⟨z0, z1, z2, z3⟩ := x
  obtain ⟨h0, h1, h2, h3⟩ := hx
  have hz : u64b z1 := h1
  obtain ⟨r, hr⟩ : ∃ r, r = b % 64 := ⟨_, rfl⟩
  obtain ⟨B, hB⟩ : ∃ B : Int, B = b := ⟨_, rfl⟩
  have hm : B % 64 = (r : Int) := by omega
  have hd : B / 64 = 1 := by omega
  have hr64 : r < 64 := by omega
  have hB0 : 0 ≤ B := by omega
  have hB256 : B ≤ 255 := by omega
  have c0 : (w.alloc (.cells #[.int .u64 z0, .int .u64 z1, .int .u64 z2, .int .u64 z3] 61)).cell? ⟨w.heap.size, 1, none⟩ = some (.int .u64 z1) := blk_cell (blk_new w (.cells #[.int .u64 z0, .int .u64 z1, .int .u64 z2, .int .u64 z3] 61)) 1
  have ka := kept_alloc (kept_refl w) (.cells #[.int .u64 z0, .int .u64 z1, .int .u64 z2, .int .u64 z3] 61)
  unfold hasv
  rw [hq, ← hr]
  have hv : bitv (({ a := z0, b := z1, c := z2, d := z3 } : Cl).wd 1) r = (z1 / 2 ^ r % 2 == 1) := rfl
  rw [hv, ← hB]
  clear hB hr hq hb hv
  go_enter Try.func58, Try.ntmps58
  go_wp2_with fail
  go_loopw [5, 6] (fun y i wr => ∃ k : Nat, k ≤ r ∧ i = .int .i64 k ∧ y = .int .u64 (z1 / 2 ^ k) ∧ Kept w wr) (fun _ i _ => r - (intOf i).toNat)
  case atStart => exact ⟨0, Nat.zero_le _, rfl, by rw [Int.pow_zero, Int.ediv_one], ka⟩
  case round =>
    obtain ⟨k, hk, rfl, rfl, hkw⟩ := hrel
    have hb1 := shr_bd hz k
    unfold u64b at hb1
    by_cases hlt : k < r
    · have hs : z1 / 2 ^ k / 2 = z1 / 2 ^ (k + 1) := by rw [Int.pow_succ, Int.ediv_ediv_of_nonneg (Int.pow_nonneg (by decide))]
      have HS := Lib.hid hs
      clear hs c0
      generalize z1 / 2 ^ k = y at *
      go_wp2_with fail
      exact ⟨⟨k + 1, by omega, by go_num, by rw [HS.out], hkw⟩, by simp [intOf]; omega⟩
    · obtain rfl : k = r := by omega
      clear c0
      generalize z1 / 2 ^ k = y at *
      go_wp2_with fail
      go_ret
      exact ⟨rfl, hkw⟩
set_option maxHeartbeats 2000000 in
theorem rhas_q2 (x : Cl) (hx : x.ok) (b : Nat) (hb : b < 256) (hq : b / 64 = 2) (w : World) : Calls Try.prog 58 #[x.v, .int .u8 (b : Nat)] w (Ret (.bool (hasv x b)) w) := by
  obtain ⟨z0, z1, z2, z3⟩ := x
  obtain ⟨h0, h1, h2, h3⟩ := hx
  have hz : u64b z2 := h2
  obtain ⟨r, hr⟩ : ∃ r, r = b % 64 := ⟨_, rfl⟩
  obtain ⟨B, hB⟩ : ∃ B : Int, B = b := ⟨_, rfl⟩
  have hm : B % 64 = (r : Int) := by omega
  have hd : B / 64 = 2 := by omega
  have hr64 : r < 64 := by omega
  have hB0 : 0 ≤ B := by omega
  have hB256 : B ≤ 255 := by omega
  have c0 : (w.alloc (.cells #[.int .u64 z0, .int .u64 z1, .int .u64 z2, .int .u64 z3] 61)).cell? ⟨w.heap.size, 2, none⟩ = some (.int .u64 z2) := blk_cell (blk_new w (.cells #[.int .u64 z0, .int .u64 z1, .int .u64 z2, .int .u64 z3] 61)) 2
  have ka := kept_alloc (kept_refl w) (.cells #[.int .u64 z0, .int .u64 z1, .int .u64 z2, .int .u64 z3] 61)
  unfold hasv
  rw [hq, ← hr]
  have hv : bitv (({ a := z0, b := z1, c := z2, d := z3 } : Cl).wd 2) r = (z2 / 2 ^ r % 2 == 1) := rfl
  rw [hv, ← hB]
  clear hB hr hq hb hv
  go_enter Try.func58, Try.ntmps58
  go_wp2_with fail
  go_loopw [5, 6] (fun y i wr => ∃ k : Nat, k ≤ r ∧ i = .int .i64 k ∧ y = .int .u64 (z2 / 2 ^ k) ∧ Kept w wr) (fun _ i _ => r - (intOf i).toNat)
  case atStart => exact ⟨0, Nat.zero_le _, rfl, by rw [Int.pow_zero, Int.ediv_one], ka⟩
  case round =>
    obtain ⟨k, hk, rfl, rfl, hkw⟩ := hrel
    have hb1 := shr_bd hz k
    unfold u64b at hb1
    by_cases hlt : k < r
    · have hs : z2 / 2 ^ k / 2 = z2 / 2 ^ (k + 1) := by rw [Int.pow_succ, Int.ediv_ediv_of_nonneg (Int.pow_nonneg (by decide))]
      have HS := Lib.hid hs
      clear hs c0
      generalize z2 / 2 ^ k = y at *
      go_wp2_with fail
      exact ⟨⟨k + 1, by omega, by go_num, by rw [HS.out], hkw⟩, by simp [intOf]; omega⟩
    · obtain rfl : k = r := by omega
      clear c0
      generalize z2 / 2 ^ k = y at *
      go_wp2_with fail
      go_ret
      exact ⟨rfl, hkw⟩
set_option maxHeartbeats 2000000 in
theorem rhas_q3 (x : Cl) (hx : x.ok) (b : Nat) (hb : b < 256) (hq : b / 64 = 3) (w : World) : Calls Try.prog 58 #[x.v, .int .u8 (b : Nat)] w (Ret (.bool (hasv x b)) w) := by
  obtain ⟨z0, z1, z2, z3⟩ := x
  obtain ⟨h0, h1, h2, h3⟩ := hx
  have hz : u64b z3 := h3
  obtain ⟨r, hr⟩ : ∃ r, r = b % 64 := ⟨_, rfl⟩
  obtain ⟨B, hB⟩ : ∃ B : Int, B = b := ⟨_, rfl⟩
  have hm : B % 64 = (r : Int) := by omega
  have hd : B / 64 = 3 := by omega
  have hr64 : r < 64 := by omega
  have hB0 : 0 ≤ B := by omega
  have hB256 : B ≤ 255 := by omega
  have c0 : (w.alloc (.cells #[.int .u64 z0, .int .u64 z1, .int .u64 z2, .int .u64 z3] 61)).cell? ⟨w.heap.size, 3, none⟩ = some (.int .u64 z3) := blk_cell (blk_new w (.cells #[.int .u64 z0, .int .u64 z1, .int .u64 z2, .int .u64 z3] 61)) 3
  have ka := kept_alloc (kept_refl w) (.cells #[.int .u64 z0, .int .u64 z1, .int .u64 z2, .int .u64 z3] 61)
  unfold hasv
  rw [hq, ← hr]
  have hv : bitv (({ a := z0, b := z1, c := z2, d := z3 } : Cl).wd 3) r = (z3 / 2 ^ r % 2 == 1) := rfl
  rw [hv, ← hB]
  clear hB hr hq hb hv
  go_enter Try.func58, Try.ntmps58
  go_wp2_with fail
  go_loopw [5, 6] (fun y i wr => ∃ k : Nat, k ≤ r ∧ i = .int .i64 k ∧ y = .int .u64 (z3 / 2 ^ k) ∧ Kept w wr) (fun _ i _ => r - (intOf i).toNat)
  case atStart => exact ⟨0, Nat.zero_le _, rfl, by rw [Int.pow_zero, Int.ediv_one], ka⟩
  case round =>
    obtain ⟨k, hk, rfl, rfl, hkw⟩ := hrel
    have hb1 := shr_bd hz k
    unfold u64b at hb1
    by_cases hlt : k < r
    · have hs : z3 / 2 ^ k / 2 = z3 / 2 ^ (k + 1) := by rw [Int.pow_succ, Int.ediv_ediv_of_nonneg (Int.pow_nonneg (by decide))]
      have HS := Lib.hid hs
      clear hs c0
      generalize z3 / 2 ^ k = y at *
      go_wp2_with fail
      exact ⟨⟨k + 1, by omega, by go_num, by rw [HS.out], hkw⟩, by simp [intOf]; omega⟩
    · obtain rfl : k = r := by omega
      clear c0
      generalize z3 / 2 ^ k = y at *
      go_wp2_with fail
      go_ret
      exact ⟨rfl, hkw⟩
theorem rhas_c (x : Cl) (hx : x.ok) (b : Nat) (hb : b < 256) (w : World) : Calls Try.prog 58 #[x.v, .int .u8 (b : Nat)] w (Ret (.bool (hasv x b)) w) := by
  have hq : b / 64 = 0 ∨ b / 64 = 1 ∨ b / 64 = 2 ∨ b / 64 = 3 := by omega
  rcases hq with h | h | h | h
  · exact rhas_q0 x hx b hb h w
  · exact rhas_q1 x hx b hb h w
  · exact rhas_q2 x hx b hb h w
  · exact rhas_q3 x hx b hb h w
end Go.Proofs.Ythbbkmkaopgmdaa
/-
  Classes of bytes: without Go.
-/
namespace Go.Proofs.Ythbbkmkaopgmdaa
set_option linter.unusedVariables false

theorem bitv_nat {y : Int} (h : 0 ≤ y) (k : Nat) : bitv y k = y.toNat.testBit k := by
  obtain ⟨n, rfl⟩ := Int.eq_ofNat_of_zero_le h
  unfold bitv
  have e : ((n : Int) / 2 ^ k % 2) = ((n / 2 ^ k % 2 : Nat) : Int) := by
    rw [Int.natCast_emod, Int.natCast_ediv, Int.natCast_pow]; rfl
  rw [e, Int.toNat_natCast, Nat.testBit_eq_decide_div_mod_eq]
  by_cases h1 : n / 2 ^ k % 2 = 1
  · rw [h1]; rfl
  · rw [decide_eq_false h1, beq_eq_false_iff_ne]; omega
theorem bit_ext {y z : Int} (hy : u64b y) (hz : u64b z) (h : ∀ k, k < 64 → bitv y k = bitv z k) : y = z := by
  have e : y.toNat = z.toNat := by
    refine Nat.eq_of_testBit_eq fun k => ?_
    by_cases hk : k < 64
    · rw [← bitv_nat hy.1, ← bitv_nat hz.1, h k hk]
    · have h1 : y.toNat < 2 ^ k := Nat.lt_of_lt_of_le (by have := hy.1; have := hy.2; omega : y.toNat < 2 ^ 64) (Nat.pow_le_pow_right (by decide) (by omega))
      have h2 : z.toNat < 2 ^ k := Nat.lt_of_lt_of_le (by have := hz.1; have := hz.2; omega : z.toNat < 2 ^ 64) (Nat.pow_le_pow_right (by decide) (by omega))
      rw [Nat.testBit_lt_two_pow h1, Nat.testBit_lt_two_pow h2]
  have := hy.1
  have := hz.1
  omega
theorem bit_orb {z : Int} (h : u64b z) (k j : Nat) : bitv (orb z k) j = (bitv z j || decide (j = k)) := by
  rw [bitv_nat h.1, bitv_nat (show 0 ≤ orb z k from Int.natCast_nonneg _)]
  unfold orb
  rw [Int.toNat_natCast, Nat.testBit_or, Nat.testBit_two_pow]
  congr 1
  by_cases e : k = j
  · rw [decide_eq_true e, decide_eq_true e.symm]
  · rw [decide_eq_false e, decide_eq_false fun h => e h.symm]
theorem wd_setw (x : Cl) {i j : Nat} (hi : i < 4) (hj : j < 4) (z : Int) : (x.setw i z).wd j = if j = i then z else x.wd j := by
  have a : i = 0 ∨ i = 1 ∨ i = 2 ∨ i = 3 := by omega
  have b : j = 0 ∨ j = 1 ∨ j = 2 ∨ j = 3 := by omega
  rcases a with rfl | rfl | rfl | rfl <;> rcases b with rfl | rfl | rfl | rfl <;> rfl
theorem has_with {x : Cl} (hx : x.ok) {b b' : Nat} (hb : b < 256) (hb' : b' < 256) : hasv (withv x b) b' = (hasv x b' || decide (b' = b)) := by
  unfold hasv withv
  rw [wd_setw x (by omega) (by omega)]
  by_cases e : b' / 64 = b / 64
  · rw [if_pos e, bit_orb (wd_ok hx _), ← e]
    congr 1
    by_cases h : b' = b
    · rw [decide_eq_true h, decide_eq_true (by omega)]
    · rw [decide_eq_false h, decide_eq_false (by omega)]
  · rw [if_neg e, decide_eq_false (show ¬ b' = b from fun h => e (by rw [h])), Bool.or_false]
theorem cl_ext {x y : Cl} (hx : x.ok) (hy : y.ok) (h : ∀ b, b < 256 → hasv x b = hasv y b) : x = y := by
  have hw : ∀ i, i < 4 → x.wd i = y.wd i := fun i hi => by
    refine bit_ext (wd_ok hx i) (wd_ok hy i) fun k hk => ?_
    have := h (64 * i + k) (by omega)
    unfold hasv at this
    rwa [show (64 * i + k) / 64 = i by omega, show (64 * i + k) % 64 = k by omega] at this
  obtain ⟨a, b, c, d⟩ := x
  obtain ⟨a', b', c', d'⟩ := y
  have h0 : a = a' := hw 0 (by decide)
  have h1 : b = b' := hw 1 (by decide)
  have h2 : c = c' := hw 2 (by decide)
  have h3 : d = d' := hw 3 (by decide)
  rw [h0, h1, h2, h3]
theorem has_zero (b : Nat) : hasv zerov b = false := by
  have : ∀ i, zerov.wd i = 0 := fun i => by unfold Cl.wd zerov; split <;> (try split) <;> (try split) <;> rfl
  unfold hasv bitv
  rw [this, Int.zero_ediv]
  rfl
theorem bit_max : ∀ k, k < 64 → bitv 18446744073709551615 k = true := by decide +kernel
theorem has_full (b : Nat) : hasv fullv b = true := by
  have : ∀ i, fullv.wd i = 18446744073709551615 := fun i => by unfold Cl.wd fullv; split <;> (try split) <;> (try split) <;> rfl
  unfold hasv
  rw [this]
  exact bit_max _ (by omega)
/-- The class of one byte. -/
def onlyv (b : Nat) : Cl := withv zerov b
theorem onlyv_ok (b : Nat) : (onlyv b).ok := withv_ok zerov_ok b
theorem has_only {b b' : Nat} (hb : b < 256) (hb' : b' < 256) : hasv (onlyv b) b' = decide (b' = b) := by
  unfold onlyv
  rw [has_with zerov_ok hb hb', has_zero, Bool.false_or]
/-- How many bytes a class has. -/
def sizev (x : Cl) : Nat := (List.range 256).countP (hasv x)
theorem sizev_le (x : Cl) : sizev x ≤ 256 := by
  have := List.countP_le_length (p := hasv x) (l := List.range 256)
  rwa [List.length_range] at this
theorem sizev_zero {x : Cl} (hx : x.ok) : sizev x = 0 ↔ x = zerov := by
  unfold sizev
  rw [List.countP_eq_zero]
  constructor
  · intro h
    refine cl_ext hx zerov_ok fun b hb => ?_
    have := h b (List.mem_range.2 hb)
    rw [has_zero]
    simpa using this
  · rintro rfl b _
    rw [has_zero]; simp
theorem sizev_full {x : Cl} (hx : x.ok) : sizev x = 256 ↔ x = fullv := by
  have e : sizev x = 256 ↔ ∀ a ∈ List.range 256, hasv x a = true := by
    rw [← List.countP_eq_length, List.length_range]; rfl
  rw [e]
  constructor
  · intro h
    exact cl_ext hx fullv_ok fun b hb => by rw [has_full, h b (List.mem_range.2 hb)]
  · rintro rfl b _
    exact has_full b
theorem count_range_one {p : Nat → Bool} : ∀ {n b : Nat}, b < n → p b = true → ((List.range n).countP p = 1 ↔ ∀ b', b' < n → p b' = decide (b' = b)) := by
  intro n
  induction n with
  | zero => intro b h; exact absurd h (Nat.not_lt_zero b)
  | succ n ih =>
    intro b hb hp
    rw [List.range_succ, List.countP_append, List.countP_singleton]
    by_cases e : b = n
    · subst e
      rw [if_pos hp]
      constructor
      · intro h b' hb'
        by_cases e' : b' = b
        · subst e'; rw [hp, decide_eq_true rfl]
        · have h0 : (List.range b).countP p = 0 := by omega
          rw [List.countP_eq_zero] at h0
          have := h0 b' (List.mem_range.2 (by omega))
          rw [decide_eq_false e']
          simpa using this
      · intro h
        have h0 : (List.range b).countP p = 0 := by
          rw [List.countP_eq_zero]
          intro b' hb'
          have hlt := List.mem_range.1 hb'
          rw [h b' (by omega), decide_eq_false (by omega)]
          simp
        omega
    · have hbn : b < n := by omega
      have IH := ih hbn hp
      constructor
      · intro h b' hb'
        have hc : 0 < (List.range n).countP p := List.countP_pos_iff.2 ⟨b, List.mem_range.2 hbn, hp⟩
        have hpn : p n = false := by
          cases h1 : p n
          · rfl
          · rw [if_pos h1] at h; omega
        rw [hpn, if_neg (by simp), Nat.add_zero] at h
        by_cases e' : b' = n
        · subst e'; rw [hpn, decide_eq_false (by omega)]
        · exact IH.1 h b' (by omega)
      · intro h
        have hpn : p n = false := by rw [h n (Nat.lt_succ_self n), decide_eq_false (by omega)]
        rw [hpn, if_neg (by simp), Nat.add_zero]
        exact IH.2 fun b' hb' => h b' (by omega)
theorem size_only {x : Cl} (hx : x.ok) {b : Nat} (hb : b < 256) (hp : hasv x b = true) : sizev x = 1 ↔ x = onlyv b := by
  unfold sizev
  rw [count_range_one hb hp]
  constructor
  · intro h
    exact cl_ext hx (onlyv_ok b) fun b' hb' => by rw [h b' hb', has_only hb hb']
  · rintro rfl b' hb'
    exact has_only hb hb'
/-- The one byte of a class, and whether it is one. -/
def sgl (x : Cl) : Nat × Bool :=
  match (List.range 256).find? (hasv x) with
  | some b => if x = onlyv b then (b, true) else (0, false)
  | none => (0, false)
theorem find_at {p : Nat → Bool} {n b : Nat} (hb : b < n) (hp : p b = true) (hm : ∀ j, j < b → p j = false) : (List.range n).find? p = some b := by
  rw [List.find?_range_eq_some]
  exact ⟨hp, List.mem_range.2 hb, fun j hj => by rw [hm j hj]; rfl⟩
theorem find_no {p : Nat → Bool} {n : Nat} (hm : ∀ j, j < n → p j = false) : (List.range n).find? p = none := by
  rw [List.find?_eq_none]
  intro j hj
  rw [hm j (List.mem_range.1 hj)]; simp
theorem sgl_at {x : Cl} {b : Nat} (hb : b < 256) (hp : hasv x b = true) (hm : ∀ j, j < b → hasv x j = false) : sgl x = if x = onlyv b then (b, true) else (0, false) := by
  unfold sgl; rw [find_at hb hp hm]
theorem sgl_no {x : Cl} (hm : ∀ j, j < 256 → hasv x j = false) : sgl x = (0, false) := by
  unfold sgl; rw [find_no hm]
theorem sgl_lt (x : Cl) : (sgl x).1 < 256 := by
  unfold sgl
  cases h : (List.range 256).find? (hasv x) with
  | none => exact (by decide : 0 < 256)
  | some b =>
    have hb := List.mem_range.1 (List.mem_of_find?_eq_some h)
    dsimp only
    split
    · exact hb
    · decide
theorem sgl_bad {x : Cl} (hx : x.ok) (h : sizev x ≠ 1) : sgl x = (0, false) := by
  unfold sgl
  cases hf : (List.range 256).find? (hasv x) with
  | none => rfl
  | some b =>
    have hb := List.mem_range.1 (List.mem_of_find?_eq_some hf)
    have hp := List.find?_some hf
    dsimp only
    rw [if_neg fun e => h ((size_only hx hb hp).2 e)]
theorem sgl_good {x : Cl} (hx : x.ok) (h : sizev x = 1) {b : Nat} (hb : b < 256) (hp : hasv x b = true) : sgl x = (b, true) ∧ x = onlyv b := by
  have hu := (size_only hx hb hp).1 h
  refine ⟨?_, hu⟩
  rw [sgl_at hb hp fun j hj => by rw [hu, has_only hb (by omega)]; exact decide_eq_false (by omega), if_pos hu]
theorem size_some {x : Cl} (h : sizev x ≠ 0) : ∃ b, b < 256 ∧ hasv x b = true := by
  unfold sizev at h
  have : 0 < (List.range 256).countP (hasv x) := by omega
  obtain ⟨b, hb, hp⟩ := List.countP_pos_iff.1 this
  exact ⟨b, List.mem_range.1 hb, hp⟩
theorem sgl_iff {x : Cl} (hx : x.ok) : (sgl x).2 = true ↔ sizev x = 1 := by
  constructor
  · intro h
    refine Decidable.byContradiction fun hn => ?_
    rw [sgl_bad hx hn] at h
    cases h
  · intro h
    obtain ⟨b, hb, hp⟩ := size_some (x := x) (by omega)
    rw [(sgl_good hx h hb hp).1]
end Go.Proofs.Ythbbkmkaopgmdaa
/-
  Layer 6 (class): a class with a byte; the others; all.
-/
namespace Go.Proofs.Ythbbkmkaopgmdaa
open Go.RowKit BG
attribute [local go_sem ↓] Go.wp_at_zero Go.wp_at_succ
set_option linter.unusedVariables false

abbrev set4 (w : World) (g : Nat) (a b c d : Value) : World := (((w.setCell ⟨g, 0, none⟩ a).setCell ⟨g, 1, none⟩ b).setCell ⟨g, 2, none⟩ c).setCell ⟨g, 3, none⟩ d
abbrev setCl (w : World) (g : Nat) (x : Cl) : World := set4 w g (.int .u64 x.a) (.int .u64 x.b) (.int .u64 x.c) (.int .u64 x.d)
theorem set4_blk {w : World} {g : Nat} {t : TypeId} {p q r s : Value} (h : w.heap[g]? = some (.cells #[p, q, r, s] t (0, 0))) (a b c d : Value) : (set4 w g a b c d).heap[g]? = some (.cells #[a, b, c, d] t (0, 0)) := by
  have h0 := blk_set h 0 a
  have h1 := blk_set h0 1 b
  have h2 := blk_set h1 2 c
  exact blk_set h2 3 d
theorem setCl_blk {w : World} {g : Nat} {y : Cl} (h : w.heap[g]? = some y.cells) (x : Cl) : (setCl w g x).heap[g]? = some x.cells := set4_blk h _ _ _ _
theorem set4_far {w : World} {g k : Nat} {o : Obj} (h : w.heap[k]? = some o) (hk : k ≠ g) (a b c d : Value) : (set4 w g a b c d).heap[k]? = some o :=
  blk_far (blk_far (blk_far (blk_far h (p := ⟨g, 0, none⟩) hk _) (p := ⟨g, 1, none⟩) hk _) (p := ⟨g, 2, none⟩) hk _) (p := ⟨g, 3, none⟩) hk _
theorem set4_kept {w0 w : World} {g : Nat} (h : Kept w0 w) (hg : w0.heap.size ≤ g) (a b c d : Value) : Kept w0 (set4 w g a b c d) :=
  kept_set (kept_set (kept_set (kept_set h (p := ⟨g, 0, none⟩) hg _) (p := ⟨g, 1, none⟩) hg _) (p := ⟨g, 2, none⟩) hg _) (p := ⟨g, 3, none⟩) hg _
theorem set4_size (w : World) (g : Nat) (a b c d : Value) : (set4 w g a b c d).heap.size = w.heap.size := by simp
theorem cl_frozen {w : World} {g : Nat} {t : TypeId} {cs : Array Value} (h : w.heap[g]? = some (.cells cs t (0, 0))) : w.frozen? ⟨g, 0, none⟩ = false ∧ w.frozen? ⟨g, 1, none⟩ = false ∧ w.frozen? ⟨g, 2, none⟩ = false ∧ w.frozen? ⟨g, 3, none⟩ = false := ⟨blk_frozen h 0, blk_frozen h 1, blk_frozen h 2, blk_frozen h 3⟩
set_option maxHeartbeats 2000000 in
theorem with_q0 (x : Cl) (hx : x.ok) (b : Nat) (hb : b < 256) (hq : b / 64 = 0) (w : World) : Calls Try.prog 41 #[x.v, .int .u8 (b : Nat)] w (Ret (withv x b).v w) := by
  obtain ⟨z0, z1, z2, z3⟩ := x
  obtain ⟨h0, h1, h2, h3⟩ := hx
  obtain ⟨r, hr⟩ : ∃ r, r = b % 64 := ⟨_, rfl⟩
  obtain ⟨B, hB⟩ : ∃ B : Int, B = b := ⟨_, rfl⟩
  have hm : B % 64 = (r : Int) := by omega
  have hd : B / 64 = 0 := by omega
  have hr64 : r < 64 := by omega
  have hB0 : 0 ≤ B := by omega
  have hor := bits_or h0 hr64
  have hv : withv ⟨z0, z1, z2, z3⟩ b = ⟨(orb z0 r), z1, z2, z3⟩ := by unfold withv; rw [hq, ← hr]; rfl
  rw [hv, ← hB]
  clear hB hr hq hb hv h0 h1 h2 h3
  go_enter Try.func41, Try.ntmps41
  go_wp2_with fail
  exact bodyPost_ret (v := .agg #[.int .u64 (orb z0 r), .int .u64 z1, .int .u64 z2, .int .u64 z3]) (by simp [results, Try.results41, go_sem]) rfl ⟨rfl, kept_alloc (kept_alloc (kept_refl w) _) _⟩
set_option maxHeartbeats 2000000 in
theorem with_q1 (x : Cl) (hx : x.ok) (b : Nat) (hb : b < 256) (hq : b / 64 = 1) (w : World) : Calls Try.prog 41 #[x.v, .int .u8 (b : Nat)] w (Ret (withv x b).v w) := by
  obtain ⟨z0, z1, z2, z3⟩ := x
  obtain ⟨h0, h1, h2, h3⟩ := hx
  obtain ⟨r, hr⟩ : ∃ r, r = b % 64 := ⟨_, rfl⟩
  obtain ⟨B, hB⟩ : ∃ B : Int, B = b := ⟨_, rfl⟩
  have hm : B % 64 = (r : Int) := by omega
  have hd : B / 64 = 1 := by omega
  have hr64 : r < 64 := by omega
  have hB0 : 0 ≤ B := by omega
  have hor := bits_or h1 hr64
  have hv : withv ⟨z0, z1, z2, z3⟩ b = ⟨z0, (orb z1 r), z2, z3⟩ := by unfold withv; rw [hq, ← hr]; rfl
  rw [hv, ← hB]
  clear hB hr hq hb hv h0 h1 h2 h3
  go_enter Try.func41, Try.ntmps41
  go_wp2_with fail
  exact bodyPost_ret (v := .agg #[.int .u64 z0, .int .u64 (orb z1 r), .int .u64 z2, .int .u64 z3]) (by simp [results, Try.results41, go_sem]) rfl ⟨rfl, kept_alloc (kept_alloc (kept_refl w) _) _⟩
set_option maxHeartbeats 2000000 in
theorem with_q2 (x : Cl) (hx : x.ok) (b : Nat) (hb : b < 256) (hq : b / 64 = 2) (w : World) : Calls Try.prog 41 #[x.v, .int .u8 (b : Nat)] w (Ret (withv x b).v w) := by
  obtain ⟨z0, z1, z2, z3⟩ := x
  obtain ⟨h0, h1, h2, h3⟩ := hx
  obtain ⟨r, hr⟩ : ∃ r, r = b % 64 := ⟨_, rfl⟩
  obtain ⟨B, hB⟩ : ∃ B : Int, B = b := ⟨_, rfl⟩
  have hm : B % 64 = (r : Int) := by omega
  have hd : B / 64 = 2 := by omega
  have hr64 : r < 64 := by omega
  have hB0 : 0 ≤ B := by omega
  have hor := bits_or h2 hr64
  have hv : withv ⟨z0, z1, z2, z3⟩ b = ⟨z0, z1, (orb z2 r), z3⟩ := by unfold withv; rw [hq, ← hr]; rfl
  rw [hv, ← hB]
  clear hB hr hq hb hv h0 h1 h2 h3
  go_enter Try.func41, Try.ntmps41
  go_wp2_with fail
  exact bodyPost_ret (v := .agg #[.int .u64 z0, .int .u64 z1, .int .u64 (orb z2 r), .int .u64 z3]) (by simp [results, Try.results41, go_sem]) rfl ⟨rfl, kept_alloc (kept_alloc (kept_refl w) _) _⟩
set_option maxHeartbeats 2000000 in
theorem with_q3 (x : Cl) (hx : x.ok) (b : Nat) (hb : b < 256) (hq : b / 64 = 3) (w : World) : Calls Try.prog 41 #[x.v, .int .u8 (b : Nat)] w (Ret (withv x b).v w) := by
  obtain ⟨z0, z1, z2, z3⟩ := x
  obtain ⟨h0, h1, h2, h3⟩ := hx
  obtain ⟨r, hr⟩ : ∃ r, r = b % 64 := ⟨_, rfl⟩
  obtain ⟨B, hB⟩ : ∃ B : Int, B = b := ⟨_, rfl⟩
  have hm : B % 64 = (r : Int) := by omega
  have hd : B / 64 = 3 := by omega
  have hr64 : r < 64 := by omega
  have hB0 : 0 ≤ B := by omega
  have hor := bits_or h3 hr64
  have hv : withv ⟨z0, z1, z2, z3⟩ b = ⟨z0, z1, z2, (orb z3 r)⟩ := by unfold withv; rw [hq, ← hr]; rfl
  rw [hv, ← hB]
  clear hB hr hq hb hv h0 h1 h2 h3
  go_enter Try.func41, Try.ntmps41
  go_wp2_with fail
  exact bodyPost_ret (v := .agg #[.int .u64 z0, .int .u64 z1, .int .u64 z2, .int .u64 (orb z3 r)]) (by simp [results, Try.results41, go_sem]) rfl ⟨rfl, kept_alloc (kept_alloc (kept_refl w) _) _⟩
theorem with_c (x : Cl) (hx : x.ok) (b : Nat) (hb : b < 256) (w : World) : Calls Try.prog 41 #[x.v, .int .u8 (b : Nat)] w (Ret (withv x b).v w) := by
  have hq : b / 64 = 0 ∨ b / 64 = 1 ∨ b / 64 = 2 ∨ b / 64 = 3 := by omega
  rcases hq with h | h | h | h
  · exact with_q0 x hx b hb h w
  · exact with_q1 x hx b hb h w
  · exact with_q2 x hx b hb h w
  · exact with_q3 x hx b hb h w
set_option maxHeartbeats 4000000 in
theorem not_c (x : Cl) (hx : x.ok) (w : World) : Calls Try.prog 65 #[x.v] w (Ret (notv x).v w) := by
  obtain ⟨z0, z1, z2, z3⟩ := x
  obtain ⟨h0, h1, h2, h3⟩ := hx
  have n0 := bits_not h0
  have n1 := bits_not h1
  have n2 := bits_not h2
  have n3 := bits_not h3
  unfold notv
  generalize 18446744073709551615 - z0 = y0 at *
  generalize 18446744073709551615 - z1 = y1 at *
  generalize 18446744073709551615 - z2 = y2 at *
  generalize 18446744073709551615 - z3 = y3 at *
  clear h0 h1 h2 h3
  have hsg : IntKind.u64.signed = false := rfl
  have hmx : IntKind.u64.max = 18446744073709551615 := rfl
  go_enter Try.func65, Try.ntmps65
  go_wp2_with fail
  refine wp_loop_rounds 5 ?_
  rw [rounds_succ]
  go_wp2_with fail
  rw [rounds_succ]
  go_wp2_with fail
  rw [rounds_succ]
  go_wp2_with fail
  rw [rounds_succ]
  go_wp2_with fail
  rw [rounds_succ]
  go_wp2_with fail
  exact bodyPost_ret (v := .agg #[.int .u64 y0, .int .u64 y1, .int .u64 y2, .int .u64 y3]) (by simp [results, Try.results65, go_sem]) rfl ⟨rfl, kept_alloc (kept_alloc (kept_refl w) _) _⟩
theorem full_c (w : World) : Calls Try.prog 44 #[] w (Ret fullv.v w) := by
  have N := not_c zerov zerov_ok
  rw [show (notv zerov).v = .agg #[.int .u64 18446744073709551615, .int .u64 18446744073709551615, .int .u64 18446744073709551615, .int .u64 18446744073709551615] from rfl] at N
  rw [show fullv.v = .agg #[.int .u64 18446744073709551615, .int .u64 18446744073709551615, .int .u64 18446744073709551615, .int .u64 18446744073709551615] from rfl]
  go_enter Try.func44, Try.ntmps44
  go_wp2_with fail
  refine (N _).mono ?_
  rintro e w1 ⟨rfl, hk1⟩
  have hz := blk_kept hk1 (blk_new w (.cells #[.int .u64 0, .int .u64 0, .int .u64 0, .int .u64 0] 61))
  obtain ⟨t0, t1, t2, t3⟩ := cl_cells (x := zerov) hz
  obtain ⟨g0, g1, g2, g3⟩ := cl_frozen hz
  have kr := set4_kept (kept_trans (kept_alloc (kept_refl w) _) hk1) (g := w.heap.size) (Nat.le_refl _) (.int .u64 18446744073709551615) (.int .u64 18446744073709551615) (.int .u64 18446744073709551615) (.int .u64 18446744073709551615)
  dsimp only [zerov] at t0 t1 t2 t3
  clear hz hk1 N
  go_wp2_with fail
  exact bodyPost_ret (v := .agg #[.int .u64 18446744073709551615, .int .u64 18446744073709551615, .int .u64 18446744073709551615, .int .u64 18446744073709551615]) (by simp [results, Try.results44, go_sem, t0, t1, t2, t3]) rfl ⟨rfl, kr⟩
end Go.Proofs.Ythbbkmkaopgmdaa
/-
  Layer 6 (class): the class of a text's bytes; its one byte.
-/
namespace Go.Proofs.Ythbbkmkaopgmdaa
open Go.RowKit BG
attribute [local go_sem ↓] Go.wp_at_zero Go.wp_at_succ
set_option linter.unusedVariables false

def byteAt (s : ByteArray) (k : Nat) : Nat := if h : k < s.size then (s[k]'h).toNat else 0
theorem byteAt_lt (s : ByteArray) (k : Nat) : byteAt s k < 256 := by
  unfold byteAt
  split
  · exact UInt8.toNat_lt _
  · decide
theorem byteAt_eq {s : ByteArray} {k : Nat} (h : k < s.size) : (s[k]'h).toNat = byteAt s k := by unfold byteAt; rw [dif_pos h]
/-- The class of a text's first bytes. -/
def ofT (s : ByteArray) : Nat → Cl
  | 0 => zerov
  | k + 1 => withv (ofT s k) (byteAt s k)
theorem ofT_ok (s : ByteArray) : ∀ k, (ofT s k).ok
  | 0 => zerov_ok
  | k + 1 => withv_ok (ofT_ok s k) _
set_option maxHeartbeats 4000000 in
theorem classOf_c (s : ByteArray) (hsz : s.size ≤ 1000000000) (w : World) : Calls Try.prog 25 #[.string s] w (Ret (ofT s s.size).v w) := by
  have ka := kept_alloc (kept_alloc (kept_refl w) zerov.cells) zerov.cells
  have hz := blk_alloc (blk_new w zerov.cells) zerov.cells
  have hc := blk_new1 w zerov.cells zerov.cells
  dsimp only [Cl.cells, zerov] at ka hz hc
  go_enter Try.func25, Try.ntmps25
  go_wp2_with fail
  go_loopw [7] (fun i wr => ∃ k : Nat, k ≤ s.size ∧ i = .int .i64 k ∧ wr.heap[w.heap.size]? = some zerov.cells ∧ wr.heap[w.heap.size + 1]? = some (ofT s k).cells ∧ Kept w wr) (fun i _ => s.size - (intOf i).toNat)
  case atStart => exact ⟨0, Nat.zero_le _, rfl, hz, hc, ka⟩
  case round =>
    obtain ⟨k, hk, rfl, hz, hc, hkw⟩ := hrel
    by_cases hlt : k < s.size
    · have WC := fun w1 => with_c (ofT s k) (ofT_ok s k) (byteAt s k) (byteAt_lt s k) w1
      obtain ⟨c0, c1, c2, c3⟩ := cl_cells hc
      have hb := byteAt_eq hlt
      have hy : withv (ofT s k) (byteAt s k) = ofT s (k + 1) := rfl
      rw [hy] at WC
      have HN := Lib.hid (rfl : ofT s (k + 1) = ofT s (k + 1))
      generalize hy1 : ofT s (k + 1) = y at *
      have HY := Lib.hid hy1
      generalize ofT s k = x at *
      generalize hbb : byteAt s k = bb at *
      clear hy hy1 hbb HN
      obtain ⟨x0, x1, x2, x3⟩ := x
      obtain ⟨y0, y1, y2, y3⟩ := y
      dsimp only [Cl.v] at WC c0 c1 c2 c3
      go_wp2_with fail
      have ks_0 := fun s => kw_cell s c0
      have ks_1 := fun s => kw_cell s c1
      have ks_2 := fun s => kw_cell s c2
      have ks_3 := fun s => kw_cell s c3
      refine wp_region_tail 5 (by kernel_rfl) (by kernel_rfl) ?_
      simp only [List.take_succ_cons, List.take_zero, List.drop_succ_cons, List.drop_zero]
      repeat (first | go_big_quiet_skip | (go_big_quiet_want; go_big_quiet_op; first | go_big_quiet_on | (apply Exists.intro; refine ⟨fun s => ?_, ?_⟩; (first | (go_at_call 41; exact call_kept (WC _))); go_big_quiet_on)))
      refine wpQuiet_nil ?_
      rintro w7 ⟨⟨_, hk7⟩, rfl⟩
      clear ks_0 ks_1 ks_2 ks_3 c0 c1 c2 c3
      replace hz := blk_kept hk7 hz
      replace hc := blk_kept hk7 hc
      obtain ⟨c0, c1, c2, c3⟩ := cl_cells hc
      obtain ⟨f0, f1, f2, f3⟩ := cl_frozen hc
      dsimp only at c0 c1 c2 c3
      replace hkw := kept_trans hkw hk7
      clear hk7
      go_wp2_with fail
      exact ⟨⟨k + 1, by omega, by go_num, set4_far (g := w.heap.size + 1) hz (by omega) _ _ _ _, by rw [HY.out]; exact set4_blk hc _ _ _ _, set4_kept (g := w.heap.size + 1) hkw (by omega) _ _ _ _⟩, by simp [intOf]; omega⟩
    · obtain rfl : k = s.size := by omega
      generalize ofT s s.size = x at *
      obtain ⟨x0, x1, x2, x3⟩ := x
      obtain ⟨c0, c1, c2, c3⟩ := cl_cells hc
      obtain ⟨t0, t1, t2, t3⟩ := cl_cells hz
      obtain ⟨g0, g1, g2, g3⟩ := cl_frozen hz
      dsimp only [zerov] at c0 c1 c2 c3 t0 t1 t2 t3
      clear hc hz
      go_wp2_with fail
      exact bodyPost_ret (v := .agg #[.int .u64 x0, .int .u64 x1, .int .u64 x2, .int .u64 x3]) (by simp [results, Try.results25, go_sem, t0, t1, t2, t3]) rfl ⟨rfl, set4_kept hkw (Nat.le_refl _) _ _ _ _⟩
end Go.Proofs.Ythbbkmkaopgmdaa
/-
  Layer 6 (class): its one byte; how many bytes it has.
-/
namespace Go.Proofs.Ythbbkmkaopgmdaa
open Go.RowKit BG
attribute [local go_sem ↓] Go.wp_at_zero Go.wp_at_succ
set_option linter.unusedVariables false

set_option maxRecDepth 100000 in
theorem eqCl (x y : Cl) (w : World) : (Op.equalIn 10000 61 x.v y.v).run Try.prog w = .ok (decide (x = y)) w := by
  have h := run_equalIn_ints w .u64 9998 61 59 4 Try.underlying61 Try.underlying59 (fun w => by kernel_rfl) [x.a, x.b, x.c, x.d] [y.a, y.b, y.c, y.d] rfl rfl
  refine h.trans ?_
  congr 1
  obtain ⟨a, b, c, d⟩ := x
  obtain ⟨e, f, g, h'⟩ := y
  by_cases q : (⟨a, b, c, d⟩ : Cl) = ⟨e, f, g, h'⟩
  · cases q; simp
  · rw [decide_eq_false q]
    simp only [beq_eq_false_iff_ne, ne_eq, List.cons.injEq, and_true]
    rintro ⟨rfl, rfl, rfl, rfl⟩
    exact q rfl
end Go.Proofs.Ythbbkmkaopgmdaa
/-
  Layer 6 (class): the document's: which bytes a class has, how many, its one byte.
-/
namespace Go.Proofs.Ythbbkmkaopgmdaa
open Go.RowKit BG
attribute [local go_sem ↓] Go.wp_at_zero Go.wp_at_succ
set_option linter.unusedVariables false

theorem info_bool : (Try.prog.info? 4).map (fun i => (i.zero, i.size, i.bytes)) = some (some (.bool false), 1, 1) := by kernel_rfl
theorem rowLess {w : World} {base base' n : Nat} {e : TypeId} {v : Value} {xs : List Value} (h : w.ownsRow base e 1 v n xs) (hb : base' ≤ base) : w.ownsRow base' e 1 v n xs := by
  obtain ⟨h1, h2⟩ := h
  refine ⟨h1, ?_⟩
  rcases h2 with h2 | ⟨g, cap, cur, e1, e2, e3⟩
  · exact .inl h2
  · exact .inr ⟨g, cap, cur, e1, Nat.le_trans hb e2, e3⟩
theorem own_far {w : World} {base n : Nat} {e : TypeId} {v : Value} {xs : List Value} (h : w.ownsRow base e 1 v n xs) {g : Nat} (hg : g < base) : some g ≠ v.ownBlock := fun e => by have := (World.ownsRow.lt h g e.symm).1; omega
def bls (hv : Nat → Bool) (n : Nat) : List Value := (List.range n).map fun b => .bool (hv b)
theorem bls_succ (hv : Nat → Bool) (n : Nat) : bls hv (n + 1) = bls hv n ++ [.bool (hv n)] := by unfold bls; rw [List.range_succ, List.map_append]; rfl
theorem bls_at (hv : Nat → Bool) {n b : Nat} (h : b < n) : (bls hv n)[b]? = some (.bool (hv b)) := by unfold bls; rw [List.getElem?_map, List.getElem?_range h]; rfl
theorem count_succ (hv : Nat → Bool) (n : Nat) : (List.range (n + 1)).countP hv = (List.range n).countP hv + if hv n then 1 else 0 := by rw [List.range_succ, List.countP_append, List.countP_singleton]
set_option maxRecDepth 100000 in
set_option maxHeartbeats 4000000 in
theorem rbytes_c (x : Cl) (hx : x.ok) (w : World) : Calls Try.prog 43 #[x.v] w fun e w' => ∃ v, e = .returned v ∧ w'.ownsRow w.heap.size 4 1 v 256 (bls (hasv x) 256) ∧ Kept w w' := by
  obtain ⟨i1, hif1, hy0, hy1, hy2⟩ := info_parts info_bool
  have hc := blk_new w x.cells
  have ka := kept_alloc (kept_refl w) x.cells
  have H := fun b hb w1 => rhas_c x hx b hb w1
  generalize hasv x = hv at *
  obtain ⟨x0, x1, x2, x3⟩ := x
  dsimp only [Cl.v, Cl.cells] at hc ka H
  go_enter Try.func43, Try.ntmps43
  go_wp2_with fail
  go_loopw [3, 4] (fun v i wr => ∃ b : Nat, b ≤ 256 ∧ i = .int .i64 b ∧ wr.heap[w.heap.size]? = some (Cl.cells ⟨x0, x1, x2, x3⟩) ∧ wr.ownsRow (w.heap.size + 1) 4 1 v b (bls hv b) ∧ Kept w wr ∧ w.heap.size + 1 ≤ wr.heap.size) (fun _ i _ => 256 - (intOf i).toNat)
  case atStart => exact ⟨0, Nat.zero_le _, rfl, hc, World.ownsRow_nil _ _ _ _, ka, by simp⟩
  case round =>
    clear hc ka
    obtain ⟨b, hb, rfl, hc, hown, hkw, hbase⟩ := hrel
    by_cases hlt : b < 256
    · have H := H b hlt
      obtain ⟨c0, c1, c2, c3⟩ := cl_cells hc
      dsimp only at c0 c1 c2 c3
      have HS := Lib.hid (bls_succ hv b)
      go_wp2_with fail
      refine (H _).mono ?_
      rintro e w1 ⟨rfl, hk1⟩
      have hown2 : w1.ownsRow (w.heap.size + 1) 4 1 _ b (bls hv b) := rowKept hown hk1
      replace hc := blk_kept hk1 hc
      replace hkw := kept_trans hkw hk1
      replace hbase := Nat.le_trans hbase hk1.size
      clear c0 c1 c2 c3 H hk1 hown
      generalize hv b = y at *
      go_wp2_with (at_builtin; refine wpList_append_own _ rfl _ _ 70 rfl (w.heap.size + 1) 4 i1 (.bool false) 1 1 Try.underlying70 hif1 hy0 hy1 hy2 rfl (by decide) _ _ _ rfl (hown2.alloc _) ⟨w1.heap.size, 0, none⟩ 1 1 [.bool y] rfl rfl ?c1 ?c2 ?c3 ?c4 ?c5 ?_)
      case c1 =>
        intro q u hq
        match q, hq with
        | 0, hq => simp at hq; subst hq; simp [Addr.add]
      case c2 => intro u hu; simp at hu; subst hu; rfl
      case c3 => unfold maxLen; omega
      case c4 => omega
      case c5 => simp; omega
      · intro v' w5 hown' hgrow _
        rw [← HS.out] at hown'
        have K := kept_grown (kept_alloc hkw _) (hown2.alloc _) (Nat.le_succ _) hgrow
        have hc' := (hgrow.block w.heap.size (by simp; omega) (own_far hown2 (Nat.lt_succ_self _))).trans (blk_alloc hc _)
        have hb' := Nat.le_trans (show w.heap.size + 1 ≤ (w1.alloc (.cells #[.bool y] 4)).heap.size by simp; omega) hgrow.size
        clear hown2 hgrow
        go_wp2_with fail
        exact ⟨⟨b + 1, by omega, by go_num, hc', hown', K, hb'⟩, by simp [intOf]; omega⟩
    · obtain rfl : b = 256 := by omega
      have hown := rowLess hown (Nat.le_succ _)
      clear H hc
      go_wp2_with fail
      go_ret
      exact ⟨_, rfl, hown, hkw⟩
set_option maxRecDepth 100000 in
set_option maxHeartbeats 4000000 in
theorem rclsize_c (x : Cl) (hx : x.ok) (w : World) : Calls Try.prog 28 #[x.v] w (Ret (.int .i64 (sizev x : Nat)) w) := by
  have B := rbytes_c x hx
  have hs : sizev x = (List.range 256).countP (hasv x) := rfl
  have HS := Lib.hid hs
  clear hs
  generalize sizev x = sz at *
  generalize hasv x = hv at *
  have hc := cl_cells (blk_new w x.cells)
  have ka := kept_alloc (kept_refl w) x.cells
  obtain ⟨x0, x1, x2, x3⟩ := x
  dsimp only [Cl.v, Cl.cells] at hc ka B
  obtain ⟨c0, c1, c2, c3⟩ := hc
  go_enter Try.func28, Try.ntmps28
  go_wp2_with fail
  refine (B _).mono ?_
  rintro e w1 ⟨v, rfl, hown, hk1⟩
  obtain ⟨g, cap, rfl⟩ := ownsRow_succ hown
  replace hk1 := kept_trans ka hk1
  clear B c0 c1 c2 c3 ka
  go_wp2_with fail
  go_loopw [3, 5] (fun n i wr => ∃ b : Nat, b ≤ 256 ∧ i = .int .i64 b ∧ n = .int .i64 (((List.range b).countP hv : Nat) : Int) ∧ Kept w1 wr) (fun _ i _ => 256 - (intOf i).toNat)
  case atStart => exact ⟨0, Nat.zero_le _, rfl, rfl, kept_refl _⟩
  case round =>
    obtain ⟨b, hb, rfl, rfl, hkw⟩ := hrel
    by_cases hlt : b < 256
    · have c0 := World.ownsRow.cellAt (rowKept hown hkw) b (by omega)
      rw [bls_at hv hlt] at c0
      have hcs := count_succ hv b
      have hcl := List.countP_le_length (p := hv) (l := List.range b)
      rw [List.length_range] at hcl
      have HC := Lib.hid hcs
      clear hcs
      generalize List.countP hv (List.range b) = n at *
      cases hy : hv b
      · rw [hy] at c0
        rw [hy, if_neg (by decide)] at HC
        go_wp2_with fail
        exact ⟨⟨b + 1, by omega, by go_num, by rw [HC.out, Nat.add_zero], hkw⟩, by simp [intOf]; omega⟩
      · rw [hy] at c0
        rw [hy, if_pos rfl] at HC
        go_wp2_with fail
        exact ⟨⟨b + 1, by omega, by go_num, by rw [HC.out]; go_num, hkw⟩, by simp [intOf]; omega⟩
    · obtain rfl : b = 256 := by omega
      rw [← HS.out]
      go_wp2_with fail
      go_ret
      exact ⟨rfl, kept_trans hk1 hkw⟩
end Go.Proofs.Ythbbkmkaopgmdaa
