/-
  Texts of one claim, joined: WCls1, WCls2, Tail, WCls3.
-/
import Derived.Laws.BitsAllLaws
import Derived.StillTail
import Derived.Test.YtdejablhpljdfaaGreatC01
namespace Go.Proofs.YtdejablhpljdfaaGreat
open Go.RowKit BG
attribute [local go_sem ↓] Go.wp_at_zero Go.wp_at_succ
set_option linter.unusedVariables false
structure Cl where
  (a b c d : Int)
deriving DecidableEq
abbrev Cl.v (x : Cl) : Value := .agg #[.int .u64 x.a, .int .u64 x.b, .int .u64 x.c, .int .u64 x.d]
abbrev Cl.cells (x : Cl) : Obj := .cells #[.int .u64 x.a, .int .u64 x.b, .int .u64 x.c, .int .u64 x.d] 110
def u64b (z : Int) : Prop := 0 ≤ z ∧ z ≤ 18446744073709551615
def Cl.ok (x : Cl) : Prop := u64b x.a ∧ u64b x.b ∧ u64b x.c ∧ u64b x.d
def bitv (z : Int) (k : Nat) : Bool := z / 2 ^ k % 2 == 1
def Cl.wd (x : Cl) (i : Nat) : Int := if i = 0 then x.a else if i = 1 then x.b else if i = 2 then x.c else x.d
def hasv (x : Cl) (b : Nat) : Bool := bitv (x.wd (b / 64)) (b % 64)
theorem cl_and_one {z : Int} (h : u64b z) : bits .and .u64 z 1 = z % 2 := by
  rw [u64_and z 1 h.1 (by have := h.2; omega) (by decide) (by decide), show (1 : Int).toNat = 1 from rfl, Nat.and_one_is_mod]
  have := h.1
  omega
theorem shr_bd {z : Int} (h : u64b z) (k : Nat) : u64b (z / 2 ^ k) := by
  have hp : (0 : Int) < 2 ^ k := Int.pow_pos (by decide)
  exact ⟨Int.ediv_nonneg h.1 (by omega), Int.le_trans (Int.ediv_le_self _ h.1) h.2⟩
def orb (z : Int) (k : Nat) : Int := ((z.toNat ||| 2 ^ k : Nat) : Int)
theorem orb_bd {z : Int} (h : u64b z) {k : Nat} (hk : k < 64) : u64b (orb z k) := by
  have h1 : z.toNat < 2 ^ 64 := by have := h.1; have := h.2; omega
  have h2 : 2 ^ k < 2 ^ 64 := Nat.pow_lt_pow_right (by decide) hk
  have := Nat.or_lt_two_pow h1 h2
  unfold orb
  exact ⟨Int.natCast_nonneg _, by omega⟩
theorem bits_or {z : Int} (h : u64b z) {k : Nat} (hk : k < 64) : bits .or .u64 z (IntKind.u64.wrap (2 ^ k)) = orb z k := by
  have h2 : 2 ^ k < 2 ^ 64 := Nat.pow_lt_pow_right (by decide) hk
  have e : ((2 : Int) ^ k) = ((2 ^ k : Nat) : Int) := by rw [Int.natCast_pow]; rfl
  unfold orb
  rw [e]
  generalize 2 ^ k = P at *
  have hw : IntKind.u64.wrap (P : Int) = (P : Int) := by rw [IntKind.wrap_u64]; omega
  rw [hw, u64_or z _ h.1 (by have := h.2; omega) (by omega) (by omega)]
  rw [Int.toNat_natCast]
def Cl.setw (x : Cl) (i : Nat) (z : Int) : Cl := if i = 0 then ⟨z, x.b, x.c, x.d⟩ else if i = 1 then ⟨x.a, z, x.c, x.d⟩ else if i = 2 then ⟨x.a, x.b, z, x.d⟩ else ⟨x.a, x.b, x.c, z⟩
def withv (x : Cl) (b : Nat) : Cl := x.setw (b / 64) (orb (x.wd (b / 64)) (b % 64))
def zerov : Cl := ⟨0, 0, 0, 0⟩
theorem bits_not {z : Int} (h : u64b z) : bits .xor .u64 18446744073709551615 z = 18446744073709551615 - z := by
  rw [u64_xor _ z (by decide) (by decide) h.1 (by have := h.2; omega)]
  have h1 : z.toNat < 2 ^ 64 := by have := h.1; have := h.2; omega
  rw [show (18446744073709551615 : Int).toNat = 2 ^ 64 - 1 from rfl, Nat.xor_comm, ← Nat.xor_comm]
  have : (2 ^ 64 - 1) ^^^ z.toNat = 2 ^ 64 - 1 - z.toNat := by
    have e := BitVec.toNat_not (x := BitVec.ofNat 64 z.toNat)
    rw [BitVec.not_def, BitVec.toNat_xor] at e
    simp only [BitVec.toNat_allOnes, BitVec.toNat_ofNat, Nat.mod_eq_of_lt h1] at e
    rw [Nat.xor_comm] at e
    rw [Nat.xor_comm]
    exact e
  rw [this]
  have := h.1
  omega
def notv (x : Cl) : Cl := ⟨18446744073709551615 - x.a, 18446744073709551615 - x.b, 18446744073709551615 - x.c, 18446744073709551615 - x.d⟩
def fullv : Cl := ⟨18446744073709551615, 18446744073709551615, 18446744073709551615, 18446744073709551615⟩
theorem zerov_ok : zerov.ok := by unfold Cl.ok u64b zerov; decide
theorem wd_ok {x : Cl} (h : x.ok) (i : Nat) : u64b (x.wd i) := by
  unfold Cl.wd
  obtain ⟨h0, h1, h2, h3⟩ := h
  split
  · exact h0
  · split
    · exact h1
    · split
      · exact h2
      · exact h3
theorem setw_ok {x : Cl} (h : x.ok) (i : Nat) {z : Int} (hz : u64b z) : (x.setw i z).ok := by
  unfold Cl.setw
  obtain ⟨h0, h1, h2, h3⟩ := h
  split
  · exact ⟨hz, h1, h2, h3⟩
  · split
    · exact ⟨h0, hz, h2, h3⟩
    · split
      · exact ⟨h0, h1, hz, h3⟩
      · exact ⟨h0, h1, h2, hz⟩
theorem withv_ok {x : Cl} (h : x.ok) (b : Nat) : (withv x b).ok := setw_ok h _ (orb_bd (wd_ok h _) (by omega))
theorem cl_cells {w : World} {g : Nat} {x : Cl} (h : w.heap[g]? = some x.cells) : w.cell? ⟨g, 0, none⟩ = some (.int .u64 x.a) ∧ w.cell? ⟨g, 1, none⟩ = some (.int .u64 x.b) ∧ w.cell? ⟨g, 2, none⟩ = some (.int .u64 x.c) ∧ w.cell? ⟨g, 3, none⟩ = some (.int .u64 x.d) := ⟨blk_cell h 0, blk_cell h 1, blk_cell h 2, blk_cell h 3⟩
set_option maxHeartbeats 2000000 in
theorem has_q0 (x : Cl) (hx : x.ok) (b : Nat) (hb : b < 256) (hq : b / 64 = 0) (w : World) : Calls Tryz.prog 93 #[x.v, .int .u8 (b : Nat)] w (Ret (.bool (hasv x b)) w) := by
  obtain ⟨z0, z1, z2, z3⟩ := x
  obtain ⟨h0, h1, h2, h3⟩ := hx
  have k0 := fun k => cl_and_one (shr_bd h0 k)
  obtain ⟨r, hr⟩ : ∃ r, r = b % 64 := ⟨_, rfl⟩
  obtain ⟨B, hB⟩ : ∃ B : Int, B = b := ⟨_, rfl⟩
  have hm : B % 64 = (r : Int) := by omega
  have hd : B / 64 = 0 := by omega
  have hr64 : r < 64 := by omega
  have hB0 : 0 ≤ B := by omega
  have c0 : (w.alloc (.cells #[.int .u64 z0, .int .u64 z1, .int .u64 z2, .int .u64 z3] 110)).cell? ⟨w.heap.size, 0, none⟩ = some (.int .u64 z0) := blk_cell (blk_new w (.cells #[.int .u64 z0, .int .u64 z1, .int .u64 z2, .int .u64 z3] 110)) 0
  have ka := kept_alloc (kept_refl w) (.cells #[.int .u64 z0, .int .u64 z1, .int .u64 z2, .int .u64 z3] 110)
  unfold hasv
  rw [hq, ← hr, ← hB]
  clear hB hr hq hb
  go_enter Tryz.func93, Tryz.ntmps93
  go_wp2_with fail
  go_ret
  exact ⟨rfl, ka⟩
set_option maxHeartbeats 2000000 in
theorem has_q1 (x : Cl) (hx : x.ok) (b : Nat) (hb : b < 256) (hq : b / 64 = 1) (w : World) : Calls Tryz.prog 93 #[x.v, .int .u8 (b : Nat)] w (Ret (.bool (hasv x b)) w) := by
  obtain ⟨z0, z1, z2, z3⟩ := x
  obtain ⟨h0, h1, h2, h3⟩ := hx
  have k0 := fun k => cl_and_one (shr_bd h1 k)
  obtain ⟨r, hr⟩ : ∃ r, r = b % 64 := ⟨_, rfl⟩
  obtain ⟨B, hB⟩ : ∃ B : Int, B = b := ⟨_, rfl⟩
  have hm : B % 64 = (r : Int) := by omega
  have hd : B / 64 = 1 := by omega
  have hr64 : r < 64 := by omega
  have hB0 : 0 ≤ B := by omega
  have c0 : (w.alloc (.cells #[.int .u64 z0, .int .u64 z1, .int .u64 z2, .int .u64 z3] 110)).cell? ⟨w.heap.size, 1, none⟩ = some (.int .u64 z1) := blk_cell (blk_new w (.cells #[.int .u64 z0, .int .u64 z1, .int .u64 z2, .int .u64 z3] 110)) 1
  have ka := kept_alloc (kept_refl w) (.cells #[.int .u64 z0, .int .u64 z1, .int .u64 z2, .int .u64 z3] 110)
  unfold hasv
  rw [hq, ← hr, ← hB]
  clear hB hr hq hb
  go_enter Tryz.func93, Tryz.ntmps93
  go_wp2_with fail
  go_ret
  exact ⟨rfl, ka⟩
set_option maxHeartbeats 2000000 in
theorem has_q2 (x : Cl) (hx : x.ok) (b : Nat) (hb : b < 256) (hq : b / 64 = 2) (w : World) : Calls Tryz.prog 93 #[x.v, .int .u8 (b : Nat)] w (Ret (.bool (hasv x b)) w) := by
  obtain ⟨z0, z1, z2, z3⟩ := x
  obtain ⟨h0, h1, h2, h3⟩ := hx
  have k0 := fun k => cl_and_one (shr_bd h2 k)
  obtain ⟨r, hr⟩ : ∃ r, r = b % 64 := ⟨_, rfl⟩
  obtain ⟨B, hB⟩ : ∃ B : Int, B = b := ⟨_, rfl⟩
  have hm : B % 64 = (r : Int) := by omega
  have hd : B / 64 = 2 := by omega
  have hr64 : r < 64 := by omega
  have hB0 : 0 ≤ B := by omega
  have c0 : (w.alloc (.cells #[.int .u64 z0, .int .u64 z1, .int .u64 z2, .int .u64 z3] 110)).cell? ⟨w.heap.size, 2, none⟩ = some (.int .u64 z2) := blk_cell (blk_new w (.cells #[.int .u64 z0, .int .u64 z1, .int .u64 z2, .int .u64 z3] 110)) 2
  have ka := kept_alloc (kept_refl w) (.cells #[.int .u64 z0, .int .u64 z1, .int .u64 z2, .int .u64 z3] 110)
  unfold hasv
  rw [hq, ← hr, ← hB]
  clear hB hr hq hb
  go_enter Tryz.func93, Tryz.ntmps93
  go_wp2_with fail
  go_ret
  exact ⟨rfl, ka⟩
set_option maxHeartbeats 2000000 in
theorem has_q3 (x : Cl) (hx : x.ok) (b : Nat) (hb : b < 256) (hq : b / 64 = 3) (w : World) : Calls Tryz.prog 93 #[x.v, .int .u8 (b : Nat)] w (Ret (.bool (hasv x b)) w) := by
  obtain ⟨z0, z1, z2, z3⟩ := x
  obtain ⟨h0, h1, h2, h3⟩ := hx
  have k0 := fun k => cl_and_one (shr_bd h3 k)
  obtain ⟨r, hr⟩ : ∃ r, r = b % 64 := ⟨_, rfl⟩
  obtain ⟨B, hB⟩ : ∃ B : Int, B = b := ⟨_, rfl⟩
  have hm : B % 64 = (r : Int) := by omega
  have hd : B / 64 = 3 := by omega
  have hr64 : r < 64 := by omega
  have hB0 : 0 ≤ B := by omega
  have c0 : (w.alloc (.cells #[.int .u64 z0, .int .u64 z1, .int .u64 z2, .int .u64 z3] 110)).cell? ⟨w.heap.size, 3, none⟩ = some (.int .u64 z3) := blk_cell (blk_new w (.cells #[.int .u64 z0, .int .u64 z1, .int .u64 z2, .int .u64 z3] 110)) 3
  have ka := kept_alloc (kept_refl w) (.cells #[.int .u64 z0, .int .u64 z1, .int .u64 z2, .int .u64 z3] 110)
  unfold hasv
  rw [hq, ← hr, ← hB]
  clear hB hr hq hb
  go_enter Tryz.func93, Tryz.ntmps93
  go_wp2_with fail
  go_ret
  exact ⟨rfl, ka⟩
theorem has_c (x : Cl) (hx : x.ok) (b : Nat) (hb : b < 256) (w : World) : Calls Tryz.prog 93 #[x.v, .int .u8 (b : Nat)] w (Ret (.bool (hasv x b)) w) := by
  have hq : b / 64 = 0 ∨ b / 64 = 1 ∨ b / 64 = 2 ∨ b / 64 = 3 := by omega
  rcases hq with h | h | h | h
  · exact has_q0 x hx b hb h w
  · exact has_q1 x hx b hb h w
  · exact has_q2 x hx b hb h w
  · exact has_q3 x hx b hb h w
set_option maxHeartbeats 2000000 in
theorem rhas_q0 (x : Cl) (hx : x.ok) (b : Nat) (hb : b < 256) (hq : b / 64 = 0) (w : World) : Calls Tryz.prog 77 #[x.v, .int .u8 (b : Nat)] w (Ret (.bool (hasv x b)) w) := by
  obtain ⟨z0, z1, z2, z3⟩ := x
  obtain ⟨h0, h1, h2, h3⟩ := hx
  have hz : u64b z0 := h0
  obtain ⟨r, hr⟩ : ∃ r, r = b % 64 := ⟨_, rfl⟩
  obtain ⟨B, hB⟩ : ∃ B : Int, B = b := ⟨_, rfl⟩
  have hm : B % 64 = (r : Int) := by omega
  have hd : B / 64 = 0 := by omega
  have hr64 : r < 64 := by omega
  have hB0 : 0 ≤ B := by omega
  have hB256 : B ≤ 255 := by omega
  have c0 : (w.alloc (.cells #[.int .u64 z0, .int .u64 z1, .int .u64 z2, .int .u64 z3] 110)).cell? ⟨w.heap.size, 0, none⟩ = some (.int .u64 z0) := blk_cell (blk_new w (.cells #[.int .u64 z0, .int .u64 z1, .int .u64 z2, .int .u64 z3] 110)) 0
  have ka := kept_alloc (kept_refl w) (.cells #[.int .u64 z0, .int .u64 z1, .int .u64 z2, .int .u64 z3] 110)
  unfold hasv
  rw [hq, ← hr]
  have hv : bitv (({ a := z0, b := z1, c := z2, d := z3 } : Cl).wd 0) r = (z0 / 2 ^ r % 2 == 1) := rfl
  rw [hv, ← hB]
  clear hB hr hq hb hv
  go_enter Tryz.func77, Tryz.ntmps77
  go_wp2_with fail
  go_loopw [5, 6] (fun y i wr => ∃ k : Nat, k ≤ r ∧ i = .int .i64 k ∧ y = .int .u64 (z0 / 2 ^ k) ∧ Kept w wr) (fun _ i _ => r - (intOf i).toNat)
  case atStart => exact ⟨0, Nat.zero_le _, rfl, by rw [Int.pow_zero, Int.ediv_one], ka⟩
  case round =>
    obtain ⟨k, hk, rfl, rfl, hkw⟩ := hrel
    have hb1 := shr_bd hz k
    unfold u64b at hb1
    by_cases hlt : k < r
    · have hs : z0 / 2 ^ k / 2 = z0 / 2 ^ (k + 1) := by rw [Int.pow_succ, Int.ediv_ediv_of_nonneg (Int.pow_nonneg (by decide))]
      have HS := Lib.hid hs
      clear hs c0
      generalize z0 / 2 ^ k = y at *
      go_wp2_with fail
      exact ⟨⟨k + 1, by omega, by go_num, by rw [HS.out], hkw⟩, by simp [intOf]; omega⟩
    · obtain rfl : k = r := by omega
      clear c0
      generalize z0 / 2 ^ k = y at *
      go_wp2_with fail
      go_ret
      exact ⟨rfl, hkw⟩
set_option maxHeartbeats 2000000 in
theorem rhas_q1 (x : Cl) (hx : x.ok) (b : Nat) (hb : b < 256) (hq : b / 64 = 1) (w : World) : Calls Tryz.prog 77 #[x.v, .int .u8 (b : Nat)] w (Ret (.bool (hasv x b)) w) := by
  obtain ⟨z0, z1, z2, z3⟩ := x
  obtain ⟨h0, h1, h2, h3⟩ := hx
  have hz : u64b z1 := h1
  obtain ⟨r, hr⟩ : ∃ r, r = b % 64 := ⟨_, rfl⟩
  obtain ⟨B, hB⟩ : ∃ B : Int, B = b := ⟨_, rfl⟩
  have hm : B % 64 = (r : Int) := by omega
  have hd : B / 64 = 1 := by omega
  have hr64 : r < 64 := by omega
  have hB0 : 0 ≤ B := by omega
  have hB256 : B ≤ 255 := by omega
  have c0 : (w.alloc (.cells #[.int .u64 z0, .int .u64 z1, .int .u64 z2, .int .u64 z3] 110)).cell? ⟨w.heap.size, 1, none⟩ = some (.int .u64 z1) := blk_cell (blk_new w (.cells #[.int .u64 z0, .int .u64 z1, .int .u64 z2, .int .u64 z3] 110)) 1
  have ka := kept_alloc (kept_refl w) (.cells #[.int .u64 z0, .int .u64 z1, .int .u64 z2, .int .u64 z3] 110)
  unfold hasv
  rw [hq, ← hr]
  have hv : bitv (({ a := z0, b := z1, c := z2, d := z3 } : Cl).wd 1) r = (z1 / 2 ^ r % 2 == 1) := rfl
  rw [hv, ← hB]
  clear hB hr hq hb hv
  go_enter Tryz.func77, Tryz.ntmps77
  go_wp2_with fail
  go_loopw [5, 6] (fun y i wr => ∃ k : Nat, k ≤ r ∧ i = .int .i64 k ∧ y = .int .u64 (z1 / 2 ^ k) ∧ Kept w wr) (fun _ i _ => r - (intOf i).toNat)
  case atStart => exact ⟨0, Nat.zero_le _, rfl, by rw [Int.pow_zero, Int.ediv_one], ka⟩
  case round =>
    obtain ⟨k, hk, rfl, rfl, hkw⟩ := hrel
    have hb1 := shr_bd hz k
    unfold u64b at hb1
    by_cases hlt : k < r
    · have hs : z1 / 2 ^ k / 2 = z1 / 2 ^ (k + 1) := by rw [Int.pow_succ, Int.ediv_ediv_of_nonneg (Int.pow_nonneg (by decide))]
      have HS := Lib.hid hs
      clear hs c0
      generalize z1 / 2 ^ k = y at *
      go_wp2_with fail
      exact ⟨⟨k + 1, by omega, by go_num, by rw [HS.out], hkw⟩, by simp [intOf]; omega⟩
    · obtain rfl : k = r := by omega
      clear c0
      generalize z1 / 2 ^ k = y at *
      go_wp2_with fail
      go_ret
      exact ⟨rfl, hkw⟩
set_option maxHeartbeats 2000000 in
theorem rhas_q2 (x : Cl) (hx : x.ok) (b : Nat) (hb : b < 256) (hq : b / 64 = 2) (w : World) : Calls Tryz.prog 77 #[x.v, .int .u8 (b : Nat)] w (Ret (.bool (hasv x b)) w) := by
  obtain ⟨z0, z1, z2, z3⟩ := x
  obtain ⟨h0, h1, h2, h3⟩ := hx
  have hz : u64b z2 := h2
  obtain ⟨r, hr⟩ : ∃ r, r = b % 64 := ⟨_, rfl⟩
  obtain ⟨B, hB⟩ : ∃ B : Int, B = b := ⟨_, rfl⟩
  have hm : B % 64 = (r : Int) := by omega
  have hd : B / 64 = 2 := by omega
  have hr64 : r < 64 := by omega
  have hB0 : 0 ≤ B := by omega
  have hB256 : B ≤ 255 := by omega
  have c0 : (w.alloc (.cells #[.int .u64 z0, .int .u64 z1, .int .u64 z2, .int .u64 z3] 110)).cell? ⟨w.heap.size, 2, none⟩ = some (.int .u64 z2) := blk_cell (blk_new w (.cells #[.int .u64 z0, .int .u64 z1, .int .u64 z2, .int .u64 z3] 110)) 2
  have ka := kept_alloc (kept_refl w) (.cells #[.int .u64 z0, .int .u64 z1, .int .u64 z2, .int .u64 z3] 110)
  unfold hasv
  rw [hq, ← hr]
  have hv : bitv (({ a := z0, b := z1, c := z2, d := z3 } : Cl).wd 2) r = (z2 / 2 ^ r % 2 == 1) := rfl
  rw [hv, ← hB]
  clear hB hr hq hb hv
  go_enter Tryz.func77, Tryz.ntmps77
  go_wp2_with fail
  go_loopw [5, 6] (fun y i wr => ∃ k : Nat, k ≤ r ∧ i = .int .i64 k ∧ y = .int .u64 (z2 / 2 ^ k) ∧ Kept w wr) (fun _ i _ => r - (intOf i).toNat)
  case atStart => exact ⟨0, Nat.zero_le _, rfl, by rw [Int.pow_zero, Int.ediv_one], ka⟩
  case round =>
    obtain ⟨k, hk, rfl, rfl, hkw⟩ := hrel
    have hb1 := shr_bd hz k
    unfold u64b at hb1
    by_cases hlt : k < r
    · have hs : z2 / 2 ^ k / 2 = z2 / 2 ^ (k + 1) := by rw [Int.pow_succ, Int.ediv_ediv_of_nonneg (Int.pow_nonneg (by decide))]
      have HS := Lib.hid hs
      clear hs c0
      generalize z2 / 2 ^ k = y at *
      go_wp2_with fail
      exact ⟨⟨k + 1, by omega, by go_num, by rw [HS.out], hkw⟩, by simp [intOf]; omega⟩
    · obtain rfl : k = r := by omega
      clear c0
      generalize z2 / 2 ^ k = y at *
      go_wp2_with fail
      go_ret
      exact ⟨rfl, hkw⟩
set_option maxHeartbeats 2000000 in
theorem rhas_q3 (x : Cl) (hx : x.ok) (b : Nat) (hb : b < 256) (hq : b / 64 = 3) (w : World) : Calls Tryz.prog 77 #[x.v, .int .u8 (b : Nat)] w (Ret (.bool (hasv x b)) w) := by
  obtain ⟨z0, z1, z2, z3⟩ := x
  obtain ⟨h0, h1, h2, h3⟩ := hx
  have hz : u64b z3 := h3
  obtain ⟨r, hr⟩ : ∃ r, r = b % 64 := ⟨_, rfl⟩
  obtain ⟨B, hB⟩ : ∃ B : Int, B = b := ⟨_, rfl⟩
  have hm : B % 64 = (r : Int) := by omega
  have hd : B / 64 = 3 := by omega
  have hr64 : r < 64 := by omega
  have hB0 : 0 ≤ B := by omega
  have hB256 : B ≤ 255 := by omega
  have c0 : (w.alloc (.cells #[.int .u64 z0, .int .u64 z1, .int .u64 z2, .int .u64 z3] 110)).cell? ⟨w.heap.size, 3, none⟩ = some (.int .u64 z3) := blk_cell (blk_new w (.cells #[.int .u64 z0, .int .u64 z1, .int .u64 z2, .int .u64 z3] 110)) 3
  have ka := kept_alloc (kept_refl w) (.cells #[.int .u64 z0, .int .u64 z1, .int .u64 z2, .int .u64 z3] 110)
  unfold hasv
  rw [hq, ← hr]
  have hv : bitv (({ a := z0, b := z1, c := z2, d := z3 } : Cl).wd 3) r = (z3 / 2 ^ r % 2 == 1) := rfl
  rw [hv, ← hB]
  clear hB hr hq hb hv
  go_enter Tryz.func77, Tryz.ntmps77
  go_wp2_with fail
  go_loopw [5, 6] (fun y i wr => ∃ k : Nat, k ≤ r ∧ i = .int .i64 k ∧ y = .int .u64 (z3 / 2 ^ k) ∧ Kept w wr) (fun _ i _ => r - (intOf i).toNat)
  case atStart => exact ⟨0, Nat.zero_le _, rfl, by rw [Int.pow_zero, Int.ediv_one], ka⟩
  case round =>
    obtain ⟨k, hk, rfl, rfl, hkw⟩ := hrel
    have hb1 := shr_bd hz k
    unfold u64b at hb1
    by_cases hlt : k < r
    · have hs : z3 / 2 ^ k / 2 = z3 / 2 ^ (k + 1) := by rw [Int.pow_succ, Int.ediv_ediv_of_nonneg (Int.pow_nonneg (by decide))]
      have HS := Lib.hid hs
      clear hs c0
      generalize z3 / 2 ^ k = y at *
      go_wp2_with fail
      exact ⟨⟨k + 1, by omega, by go_num, by rw [HS.out], hkw⟩, by simp [intOf]; omega⟩
    · obtain rfl : k = r := by omega
      clear c0
      generalize z3 / 2 ^ k = y at *
      go_wp2_with fail
      go_ret
      exact ⟨rfl, hkw⟩
theorem rhas_c (x : Cl) (hx : x.ok) (b : Nat) (hb : b < 256) (w : World) : Calls Tryz.prog 77 #[x.v, .int .u8 (b : Nat)] w (Ret (.bool (hasv x b)) w) := by
  have hq : b / 64 = 0 ∨ b / 64 = 1 ∨ b / 64 = 2 ∨ b / 64 = 3 := by omega
  rcases hq with h | h | h | h
  · exact rhas_q0 x hx b hb h w
  · exact rhas_q1 x hx b hb h w
  · exact rhas_q2 x hx b hb h w
  · exact rhas_q3 x hx b hb h w
end Go.Proofs.YtdejablhpljdfaaGreat
namespace Go.Proofs.YtdejablhpljdfaaGreat
open Go.RowKit BG
attribute [local go_sem ↓] Go.wp_at_zero Go.wp_at_succ
set_option linter.unusedVariables false
abbrev set4 (w : World) (g : Nat) (a b c d : Value) : World := (((w.setCell ⟨g, 0, none⟩ a).setCell ⟨g, 1, none⟩ b).setCell ⟨g, 2, none⟩ c).setCell ⟨g, 3, none⟩ d
theorem set4_blk {w : World} {g : Nat} {t : TypeId} {p q r s : Value} (h : w.heap[g]? = some (.cells #[p, q, r, s] t (0, 0))) (a b c d : Value) : (set4 w g a b c d).heap[g]? = some (.cells #[a, b, c, d] t (0, 0)) := by
  have h0 := blk_set h 0 a
  have h1 := blk_set h0 1 b
  have h2 := blk_set h1 2 c
  exact blk_set h2 3 d
theorem set4_far {w : World} {g k : Nat} {o : Obj} (h : w.heap[k]? = some o) (hk : k ≠ g) (a b c d : Value) : (set4 w g a b c d).heap[k]? = some o :=
  blk_far (blk_far (blk_far (blk_far h (p := ⟨g, 0, none⟩) hk _) (p := ⟨g, 1, none⟩) hk _) (p := ⟨g, 2, none⟩) hk _) (p := ⟨g, 3, none⟩) hk _
theorem set4_kept {w0 w : World} {g : Nat} (h : Kept w0 w) (hg : w0.heap.size ≤ g) (a b c d : Value) : Kept w0 (set4 w g a b c d) :=
  kept_set (kept_set (kept_set (kept_set h (p := ⟨g, 0, none⟩) hg _) (p := ⟨g, 1, none⟩) hg _) (p := ⟨g, 2, none⟩) hg _) (p := ⟨g, 3, none⟩) hg _
theorem cl_frozen {w : World} {g : Nat} {t : TypeId} {cs : Array Value} (h : w.heap[g]? = some (.cells cs t (0, 0))) : w.frozen? ⟨g, 0, none⟩ = false ∧ w.frozen? ⟨g, 1, none⟩ = false ∧ w.frozen? ⟨g, 2, none⟩ = false ∧ w.frozen? ⟨g, 3, none⟩ = false := ⟨blk_frozen h 0, blk_frozen h 1, blk_frozen h 2, blk_frozen h 3⟩
set_option maxHeartbeats 2000000 in
theorem with_q0 (x : Cl) (hx : x.ok) (b : Nat) (hb : b < 256) (hq : b / 64 = 0) (w : World) : Calls Tryz.prog 94 #[x.v, .int .u8 (b : Nat)] w (Ret (withv x b).v w) := by
  obtain ⟨z0, z1, z2, z3⟩ := x
  obtain ⟨h0, h1, h2, h3⟩ := hx
  obtain ⟨r, hr⟩ : ∃ r, r = b % 64 := ⟨_, rfl⟩
  obtain ⟨B, hB⟩ : ∃ B : Int, B = b := ⟨_, rfl⟩
  have hm : B % 64 = (r : Int) := by omega
  have hd : B / 64 = 0 := by omega
  have hr64 : r < 64 := by omega
  have hB0 : 0 ≤ B := by omega
  have hor := bits_or h0 hr64
  have hv : withv ⟨z0, z1, z2, z3⟩ b = ⟨(orb z0 r), z1, z2, z3⟩ := by unfold withv; rw [hq, ← hr]; rfl
  rw [hv, ← hB]
  clear hB hr hq hb hv h0 h1 h2 h3
  go_enter Tryz.func94, Tryz.ntmps94
  go_wp2_with fail
  exact bodyPost_ret (v := .agg #[.int .u64 (orb z0 r), .int .u64 z1, .int .u64 z2, .int .u64 z3]) (by simp [results, Tryz.results94, go_sem]) rfl ⟨rfl, kept_alloc (kept_alloc (kept_refl w) _) _⟩
set_option maxHeartbeats 2000000 in
theorem with_q1 (x : Cl) (hx : x.ok) (b : Nat) (hb : b < 256) (hq : b / 64 = 1) (w : World) : Calls Tryz.prog 94 #[x.v, .int .u8 (b : Nat)] w (Ret (withv x b).v w) := by
  obtain ⟨z0, z1, z2, z3⟩ := x
  obtain ⟨h0, h1, h2, h3⟩ := hx
  obtain ⟨r, hr⟩ : ∃ r, r = b % 64 := ⟨_, rfl⟩
  obtain ⟨B, hB⟩ : ∃ B : Int, B = b := ⟨_, rfl⟩
  have hm : B % 64 = (r : Int) := by omega
  have hd : B / 64 = 1 := by omega
  have hr64 : r < 64 := by omega
  have hB0 : 0 ≤ B := by omega
  have hor := bits_or h1 hr64
  have hv : withv ⟨z0, z1, z2, z3⟩ b = ⟨z0, (orb z1 r), z2, z3⟩ := by unfold withv; rw [hq, ← hr]; rfl
  rw [hv, ← hB]
  clear hB hr hq hb hv h0 h1 h2 h3
  go_enter Tryz.func94, Tryz.ntmps94
  go_wp2_with fail
  exact bodyPost_ret (v := .agg #[.int .u64 z0, .int .u64 (orb z1 r), .int .u64 z2, .int .u64 z3]) (by simp [results, Tryz.results94, go_sem]) rfl ⟨rfl, kept_alloc (kept_alloc (kept_refl w) _) _⟩
set_option maxHeartbeats 2000000 in
theorem with_q2 (x : Cl) (hx : x.ok) (b : Nat) (hb : b < 256) (hq : b / 64 = 2) (w : World) : Calls Tryz.prog 94 #[x.v, .int .u8 (b : Nat)] w (Ret (withv x b).v w) := by
  obtain ⟨z0, z1, z2, z3⟩ := x
  obtain ⟨h0, h1, h2, h3⟩ := hx
  obtain ⟨r, hr⟩ : ∃ r, r = b % 64 := ⟨_, rfl⟩
  obtain ⟨B, hB⟩ : ∃ B : Int, B = b := ⟨_, rfl⟩
  have hm : B % 64 = (r : Int) := by omega
  have hd : B / 64 = 2 := by omega
  have hr64 : r < 64 := by omega
  have hB0 : 0 ≤ B := by omega
  have hor := bits_or h2 hr64
  have hv : withv ⟨z0, z1, z2, z3⟩ b = ⟨z0, z1, (orb z2 r), z3⟩ := by unfold withv; rw [hq, ← hr]; rfl
  rw [hv, ← hB]
  clear hB hr hq hb hv h0 h1 h2 h3
  go_enter Tryz.func94, Tryz.ntmps94
  go_wp2_with fail
  exact bodyPost_ret (v := .agg #[.int .u64 z0, .int .u64 z1, .int .u64 (orb z2 r), .int .u64 z3]) (by simp [results, Tryz.results94, go_sem]) rfl ⟨rfl, kept_alloc (kept_alloc (kept_refl w) _) _⟩
set_option maxHeartbeats 2000000 in
theorem with_q3 (x : Cl) (hx : x.ok) (b : Nat) (hb : b < 256) (hq : b / 64 = 3) (w : World) : Calls Tryz.prog 94 #[x.v, .int .u8 (b : Nat)] w (Ret (withv x b).v w) := by
  obtain ⟨z0, z1, z2, z3⟩ := x
  obtain ⟨h0, h1, h2, h3⟩ := hx
  obtain ⟨r, hr⟩ : ∃ r, r = b % 64 := ⟨_, rfl⟩
  obtain ⟨B, hB⟩ : ∃ B : Int, B = b := ⟨_, rfl⟩
  have hm : B % 64 = (r : Int) := by omega
  have hd : B / 64 = 3 := by omega
  have hr64 : r < 64 := by omega
  have hB0 : 0 ≤ B := by omega
  have hor := bits_or h3 hr64
  have hv : withv ⟨z0, z1, z2, z3⟩ b = ⟨z0, z1, z2, (orb z3 r)⟩ := by unfold withv; rw [hq, ← hr]; rfl
  rw [hv, ← hB]
  clear hB hr hq hb hv h0 h1 h2 h3
  go_enter Tryz.func94, Tryz.ntmps94
  go_wp2_with fail
  exact bodyPost_ret (v := .agg #[.int .u64 z0, .int .u64 z1, .int .u64 z2, .int .u64 (orb z3 r)]) (by simp [results, Tryz.results94, go_sem]) rfl ⟨rfl, kept_alloc (kept_alloc (kept_refl w) _) _⟩
theorem with_c (x : Cl) (hx : x.ok) (b : Nat) (hb : b < 256) (w : World) : Calls Tryz.prog 94 #[x.v, .int .u8 (b : Nat)] w (Ret (withv x b).v w) := by
  have hq : b / 64 = 0 ∨ b / 64 = 1 ∨ b / 64 = 2 ∨ b / 64 = 3 := by omega
  rcases hq with h | h | h | h
  · exact with_q0 x hx b hb h w
  · exact with_q1 x hx b hb h w
  · exact with_q2 x hx b hb h w
  · exact with_q3 x hx b hb h w
set_option maxHeartbeats 4000000 in
theorem not_c (x : Cl) (hx : x.ok) (w : World) : Calls Tryz.prog 153 #[x.v] w (Ret (notv x).v w) := by
  obtain ⟨z0, z1, z2, z3⟩ := x
  obtain ⟨h0, h1, h2, h3⟩ := hx
  have n0 := bits_not h0
  have n1 := bits_not h1
  have n2 := bits_not h2
  have n3 := bits_not h3
  unfold notv
  generalize 18446744073709551615 - z0 = y0 at *
  generalize 18446744073709551615 - z1 = y1 at *
  generalize 18446744073709551615 - z2 = y2 at *
  generalize 18446744073709551615 - z3 = y3 at *
  clear h0 h1 h2 h3
  have hsg : IntKind.u64.signed = false := rfl
  have hmx : IntKind.u64.max = 18446744073709551615 := rfl
  go_enter Tryz.func153, Tryz.ntmps153
  go_wp2_with fail
  refine wp_loop_rounds 5 ?_
  rw [rounds_succ]
  go_wp2_with fail
  rw [rounds_succ]
  go_wp2_with fail
  rw [rounds_succ]
  go_wp2_with fail
  rw [rounds_succ]
  go_wp2_with fail
  rw [rounds_succ]
  go_wp2_with fail
  exact bodyPost_ret (v := .agg #[.int .u64 y0, .int .u64 y1, .int .u64 y2, .int .u64 y3]) (by simp [results, Tryz.results153, go_sem]) rfl ⟨rfl, kept_alloc (kept_alloc (kept_refl w) _) _⟩
theorem full_c (w : World) : Calls Tryz.prog 95 #[] w (Ret fullv.v w) := by
  have N := not_c zerov zerov_ok
  rw [show (notv zerov).v = .agg #[.int .u64 18446744073709551615, .int .u64 18446744073709551615, .int .u64 18446744073709551615, .int .u64 18446744073709551615] from rfl] at N
  rw [show fullv.v = .agg #[.int .u64 18446744073709551615, .int .u64 18446744073709551615, .int .u64 18446744073709551615, .int .u64 18446744073709551615] from rfl]
  go_enter Tryz.func95, Tryz.ntmps95
  go_wp2_with fail
  refine (N _).mono ?_
  rintro e w1 ⟨rfl, hk1⟩
  have hz := blk_kept hk1 (blk_new w (.cells #[.int .u64 0, .int .u64 0, .int .u64 0, .int .u64 0] 110))
  obtain ⟨t0, t1, t2, t3⟩ := cl_cells (x := zerov) hz
  obtain ⟨g0, g1, g2, g3⟩ := cl_frozen hz
  have kr := set4_kept (kept_trans (kept_alloc (kept_refl w) _) hk1) (g := w.heap.size) (Nat.le_refl _) (.int .u64 18446744073709551615) (.int .u64 18446744073709551615) (.int .u64 18446744073709551615) (.int .u64 18446744073709551615)
  dsimp only [zerov] at t0 t1 t2 t3
  clear hz hk1 N
  go_wp2_with fail
  exact bodyPost_ret (v := .agg #[.int .u64 18446744073709551615, .int .u64 18446744073709551615, .int .u64 18446744073709551615, .int .u64 18446744073709551615]) (by simp [results, Tryz.results95, go_sem, t0, t1, t2, t3]) rfl ⟨rfl, kr⟩
end Go.Proofs.YtdejablhpljdfaaGreat
set_option linter.unusedVariables false
namespace Go.Proofs.YtdejablhpljdfaaGreat
open Go.RowKit
section
variable {P : Program} {ops : Array Oper} {md : Region.Mode} {C : World → Prop}
def anyHead (P : Program) (md : Region.Mode) (ops : Array Oper) (C : World → Prop) (n : Nat) (L : Array Bool → Act → Prop) : Nat → Array Bool → Act → Prop
  | 0, listed, a => L listed a
  | f + 1, listed, a => Region.ready md ops listed ≠ [] ∧ ∀ i ∈ Region.ready md ops listed, i < n ∧ qOp P ops C i (anyHead P md ops C n L f (listed.setIfInBounds i true)) a
theorem any_of_head {n g : Nat} {L : Array Bool → Act → Prop} {Q' : Exit → Act → World → Prop} (hL : ∀ listed a w, C w → L listed a → wpAny P md ops Q' g listed a w) :
    ∀ (f : Nat) (listed : Array Bool) (a : Act) (w : World), C w → anyHead P md ops C n L f listed a → wpAny P md ops Q' (f + g) listed a w := by
  intro f
  induction f with
  | zero => intro listed a w hw h; rw [Nat.zero_add]; exact hL _ _ _ hw h
  | succ f ih =>
    intro listed a w hw h
    rw [show f + 1 + g = (f + g) + 1 from by omega]
    exact ⟨fun h0 => absurd h0 h.1, fun i hi => wpOp_of_qOp hw (fun a' w' hw' h' => ih _ a' w' hw' h') (h.2 i hi).2⟩
theorem head_first {n i : Nat} {oi : Oper} {v : Value} {L : Array Bool → Act → Prop} (hi : ops[i]? = some oi) (hsel : ∀ (j : Nat) (o : Oper) cs b, ops[j]? = some o → o.op ≠ .select cs b)
    (hs : Region.sinkB md ops n = true) (hc : Region.chainB md ops n = true) (hn : n < ops.size) (hin : i < n) (hdone : ∀ listed a, L listed a → ∀ j ∈ Region.ready md ops listed, n ≤ j) :
    ∀ (f : Nat) (listed : Array Bool) (a : Act), HeadInv md ops n listed →
      (∀ j oj, ops[j]? = some oj → j ≠ i → listed.getD j true = false → (∀ e ∈ oj.after, Region.binds md e = true → e.on ≠ i) → oi.apart ops oj = true) →
      i ∈ Region.ready md ops listed → YieldsIn P ops C oi v a →
      anyHead P md ops C n L f (listed.setIfInBounds i true) (a.put oi.dst v) → anyHead P md ops C n L (f + 1) listed a := by
  intro f
  induction f with
  | zero =>
    intro listed a inv _ hr hy H
    refine ⟨fun h => (by rw [h] at hr; cases hr), fun j hj => ?_⟩
    have hjn : j < n := Nat.lt_of_not_le fun h => tail_waits hs hc hn inv _ i rfl hin (mem_ready.1 hr).1 j h hj
    refine ⟨hjn, ?_⟩
    by_cases hji : j = i
    · subst hji; exact hy.qOp hi H
    · have := hdone _ _ H j (ready_mono hj hji)
      omega
  | succ f ih =>
    intro listed a inv hfree hr hy H
    have hun := (mem_ready.1 hr).1
    refine ⟨fun h => (by rw [h] at hr; cases hr), fun j hj => ?_⟩
    have hjn : j < n := Nat.lt_of_not_le fun h => tail_waits hs hc hn inv _ i rfl hin hun j h hj
    refine ⟨hjn, ?_⟩
    by_cases hji : j = i
    · subst hji; exact hy.qOp hi H
    · obtain ⟨hjun, oj, hoj, hall⟩ := mem_ready.1 hj
      have hnot : ∀ e ∈ oj.after, Region.binds md e = true → e.on ≠ i := fun e he hb heq => by
        have h1 := hall e he hb
        rw [heq, getD_both hun] at h1
        cases h1
      have h2 := qOp_put hoj (hfree j oj hoj hji hjun hnot) (fun cs b => hsel i oi cs b hi) (fun cs b => hsel j oj cs b hoj) hy (H.2 j (ready_mono hj hji)).2
      refine qOp_mono (fun a' h3 => ih _ a' (inv.set hj hjn) (fun q oq hq hqi hqun hno => hfree q oq hq hqi ?_ hno) (ready_mono hr (Ne.symm hji)) h3.1 ?_) h2
      · by_cases hjq : j = q
        · subst hjq; exact hjun
        · rw [getD_set_ne true hjq] at hqun; exact hqun
      · rw [Array.setIfInBounds_comm _ _ hji]
        exact h3.2
theorem head_lex {n g : Nat} {Lq : Act → Prop} (hsel : Region.noSelect ops = true) (hs : Region.sinkB md ops n = true) (hc : Region.chainB md ops n = true) (hn : n < ops.size) :
    ∀ (l : List Oper) (k : Nat) (listed : Array Bool) (a : Act), (∀ j, j < l.length → l[j]? = ops[k + j]?) → k + l.length = n → HeadInv md ops n listed →
    Region.lexHead md ops g l.length k listed = true → wpQuiet P ops C Lq l a →
    anyHead P md ops C n (fun listed' a' => Region.seqB md ops g n listed' = true ∧ Lq a') l.length listed a := by
  intro l
  induction l with
  | nil =>
    intro k listed a _ hk _ hB h
    obtain rfl : k = n := by simpa using hk
    exact ⟨by simpa [Region.lexHead] using hB, h⟩
  | cons o l ih =>
    intro k listed a hl hk inv hB h
    have h0 : ops[k]? = some o := by simpa using (hl 0 (by simp)).symm
    simp only [List.length_cons, Region.lexHead, Bool.and_eq_true] at hB
    obtain ⟨⟨hr, hf⟩, hB'⟩ := hB
    have hkn : k < n := by simp only [List.length_cons] at hk; omega
    have hr' : k ∈ Region.ready md ops listed := by simpa using hr
    have hst : qOp P ops C k (wpQuiet P ops C Lq l) a := by unfold qOp; simp only [h0]; exact h
    obtain ⟨v, hy, hK⟩ := yieldsIn_of_qOp h0 hst
    refine head_first h0 (Region.noSelect_spec hsel) hs hc hn hkn (fun listed' a' hL => seqB_ready hL.1) l.length listed a inv (Region.free_spec h0 hf) hr' hy ?_
    exact ih (k + 1) _ _ (fun j hj => by have := hl (j + 1) (by simp; omega); simpa [Nat.add_assoc, Nat.add_comm 1 j] using this) (by simp only [List.length_cons] at hk; omega) (inv.set hr' hkn) hB' hK
theorem wp_region_tail {id : Nat} {Q : Exit → Act → World → Prop} {a : Act} {w : World} {l : List Oper} (n : Nat) (hm : P.follows .mixedOrders = true) (hB : Region.lexTailB .any l.toArray n = true)
    (h : wpQuiet P l.toArray (fun w' => ∃ s : KW w, w' = s.val) (fun a' => ∀ w', (∃ s : KW w, w' = s.val) → wpList P l.toArray Q (l.drop n) a' w') (l.take n) a) : (Code.region id l.toArray true).wp P Q a w := by
  simp only [Region.lexTailB, Bool.and_eq_true, decide_eq_true_eq] at hB
  obtain ⟨⟨⟨⟨hsel, hn⟩, hs⟩, hc⟩, hlex⟩ := hB
  have hn' : n < l.length := by simpa using hn
  have htl : (l.take n).length = n := by simp; omega
  have hdl : (l.drop n).length = l.toArray.size - n := by simp
  have inv0 : HeadInv .any l.toArray n (Array.replicate l.toArray.size false) :=
    ⟨by simp, fun j oj _ hl => (by rw [getD_replicate_false] at hl; cases hl), fun t _ ht => getD_in (by simpa using ht) (getD_replicate_false _ _)⟩
  have H := head_lex (md := .any) (g := l.toArray.size - n) hsel hs hc hn (l.take n) 0 _ a (fun j hj => by
    have hj' : j < n := by rw [htl] at hj; exact hj
    simp [hj']) (by simpa using htl) inv0 (by rw [htl]; exact hlex) h
  refine wp_region_any hm ?_
  have := any_of_head (Q' := Q) (g := l.toArray.size - n) (fun listed a' w' hw' hL => by
    have := wpAny_of_seq (md := .any) (Q' := Q) (l.drop n) n listed a' w' (fun j => by simp [List.getElem?_drop]) (by rw [hdl]; exact hL.1) (hL.2 w' hw')
    rwa [hdl] at this) _ _ _ { w with drawn := w.drawn + 1 } ⟨⟨w.drew, kept_drew (kept_refl w)⟩, rfl⟩ H
  rw [htl, show n + (l.toArray.size - n) = l.toArray.size from by omega] at this
  exact this
end
end Go.Proofs.YtdejablhpljdfaaGreat
namespace Go.Proofs.YtdejablhpljdfaaGreat
open Go.RowKit BG
attribute [local go_sem ↓] Go.wp_at_zero Go.wp_at_succ
set_option linter.unusedVariables false
def byteAt (s : ByteArray) (k : Nat) : Nat := if h : k < s.size then (s[k]'h).toNat else 0
theorem byteAt_lt (s : ByteArray) (k : Nat) : byteAt s k < 256 := by
  unfold byteAt
  split
  · exact UInt8.toNat_lt _
  · decide
theorem byteAt_eq {s : ByteArray} {k : Nat} (h : k < s.size) : (s[k]'h).toNat = byteAt s k := by unfold byteAt; rw [dif_pos h]
def ofT (s : ByteArray) : Nat → Cl
  | 0 => zerov
  | k + 1 => withv (ofT s k) (byteAt s k)
theorem ofT_ok (s : ByteArray) : ∀ k, (ofT s k).ok
  | 0 => zerov_ok
  | k + 1 => withv_ok (ofT_ok s k) _
set_option maxHeartbeats 4000000 in
theorem classOf_c (s : ByteArray) (hsz : s.size ≤ 1000000000) (w : World) : Calls Tryz.prog 51 #[.string s] w (Ret (ofT s s.size).v w) := by
  have ka := kept_alloc (kept_alloc (kept_refl w) zerov.cells) zerov.cells
  have hz := blk_alloc (blk_new w zerov.cells) zerov.cells
  have hc := blk_new1 w zerov.cells zerov.cells
  dsimp only [Cl.cells, zerov] at ka hz hc
  go_enter Tryz.func51, Tryz.ntmps51
  go_wp2_with fail
  go_loopw [7] (fun i wr => ∃ k : Nat, k ≤ s.size ∧ i = .int .i64 k ∧ wr.heap[w.heap.size]? = some zerov.cells ∧ wr.heap[w.heap.size + 1]? = some (ofT s k).cells ∧ Kept w wr) (fun i _ => s.size - (intOf i).toNat)
  case atStart => exact ⟨0, Nat.zero_le _, rfl, hz, hc, ka⟩
  case round =>
    obtain ⟨k, hk, rfl, hz, hc, hkw⟩ := hrel
    by_cases hlt : k < s.size
    · have WC := fun w1 => with_c (ofT s k) (ofT_ok s k) (byteAt s k) (byteAt_lt s k) w1
      obtain ⟨c0, c1, c2, c3⟩ := cl_cells hc
      have hb := byteAt_eq hlt
      have hy : withv (ofT s k) (byteAt s k) = ofT s (k + 1) := rfl
      rw [hy] at WC
      have HN := Lib.hid (rfl : ofT s (k + 1) = ofT s (k + 1))
      generalize hy1 : ofT s (k + 1) = y at *
      have HY := Lib.hid hy1
      generalize ofT s k = x at *
      generalize hbb : byteAt s k = bb at *
      clear hy hy1 hbb HN
      obtain ⟨x0, x1, x2, x3⟩ := x
      obtain ⟨y0, y1, y2, y3⟩ := y
      dsimp only [Cl.v] at WC c0 c1 c2 c3
      go_wp2_with fail
      have ks_0 := fun s => kw_cell s c0
      have ks_1 := fun s => kw_cell s c1
      have ks_2 := fun s => kw_cell s c2
      have ks_3 := fun s => kw_cell s c3
      refine wp_region_tail 5 (by kernel_rfl) (by kernel_rfl) ?_
      simp only [List.take_succ_cons, List.take_zero, List.drop_succ_cons, List.drop_zero]
      repeat (first | go_big_quiet_skip | (go_big_quiet_want; go_big_quiet_op; first | go_big_quiet_on | (apply Exists.intro; refine ⟨fun s => ?_, ?_⟩; (first | (go_at_call 94; exact call_kept (WC _))); go_big_quiet_on)))
      refine wpQuiet_nil ?_
      rintro w7 ⟨⟨_, hk7⟩, rfl⟩
      clear ks_0 ks_1 ks_2 ks_3 c0 c1 c2 c3
      replace hz := blk_kept hk7 hz
      replace hc := blk_kept hk7 hc
      obtain ⟨c0, c1, c2, c3⟩ := cl_cells hc
      obtain ⟨f0, f1, f2, f3⟩ := cl_frozen hc
      dsimp only at c0 c1 c2 c3
      replace hkw := kept_trans hkw hk7
      clear hk7
      go_wp2_with fail
      exact ⟨⟨k + 1, by omega, by go_num, set4_far (g := w.heap.size + 1) hz (by omega) _ _ _ _, by rw [HY.out]; exact set4_blk hc _ _ _ _, set4_kept (g := w.heap.size + 1) hkw (by omega) _ _ _ _⟩, by simp [intOf]; omega⟩
    · obtain rfl : k = s.size := by omega
      generalize ofT s s.size = x at *
      obtain ⟨x0, x1, x2, x3⟩ := x
      obtain ⟨c0, c1, c2, c3⟩ := cl_cells hc
      obtain ⟨t0, t1, t2, t3⟩ := cl_cells hz
      obtain ⟨g0, g1, g2, g3⟩ := cl_frozen hz
      dsimp only [zerov] at c0 c1 c2 c3 t0 t1 t2 t3
      clear hc hz
      go_wp2_with fail
      exact bodyPost_ret (v := .agg #[.int .u64 x0, .int .u64 x1, .int .u64 x2, .int .u64 x3]) (by simp [results, Tryz.results51, go_sem, t0, t1, t2, t3]) rfl ⟨rfl, set4_kept hkw (Nat.le_refl _) _ _ _ _⟩
end Go.Proofs.YtdejablhpljdfaaGreat
