/-
  Layer 22 (grid): which fields there are.
-/
import Derived.Test.YthbbkmkaopgmdaaWClsJ
import Derived.Test.YthbbkmkaopgmdaaWLeafJ
import Derived.Test.YthbbkmkaopgmdaaWNttJ
namespace Go.Proofs.Ythbbkmkaopgmdaa
open Go.RowKit BG
attribute [local go_sem ↓] Go.wp_at_zero Go.wp_at_succ
set_option linter.unusedVariables false

def rowsb (w : Int) (n : Nat) : Bool := decide (1 ≤ w ∧ w ≤ 64 ∧ n % w.toNat = 0 ∧ n ≤ 64 * w.toNat)
abbrev fieldV (W : Int) (s : ByteArray) : Value := .agg #[.int .i64 W, .string s]
abbrev maskV (W : Int) (A : Option Addr) (n cap : Nat) : Value := .agg #[.int .i64 W, .slice A n cap]
theorem rowsb_no {w : Int} {n : Nat} (h : ¬ (1 ≤ w ∧ w ≤ 64 ∧ n % w.toNat = 0 ∧ n ≤ 64 * w.toNat)) : rowsb w n = false := decide_eq_false h
theorem div_le64 {n W : Nat} (h0 : 0 < W) (h : n % W = 0) : n / W ≤ 64 ↔ n ≤ 64 * W := by
  have h1 := Nat.div_add_mod n W
  rw [h, Nat.add_zero] at h1
  constructor
  · intro h2
    have := Nat.mul_le_mul_left W h2
    rw [h1, Nat.mul_comm] at this
    exact this
  · intro h2
    rw [← h1, Nat.mul_comm 64 W] at h2
    exact Nat.le_of_mul_le_mul_left h2 h0
set_option maxHeartbeats 4000000 in
theorem gridrows_c (w : Int) (n : Nat) (hn : n ≤ 9223372036854775807) (w0 : World) : Calls Try.prog 26 #[.int .i64 w, .int .i64 (n : Int)] w0 (Ret (.bool (rowsb w n)) w0) := by
  by_cases h1 : 1 ≤ w
  · obtain ⟨W, rfl⟩ : ∃ W : Nat, w = (W : Int) := ⟨w.toNat, by omega⟩
    have d1 : decide (1 ≤ (W : Int)) = true := decide_eq_true h1
    by_cases h2 : (W : Int) ≤ 64
    · have d2 : decide ((W : Int) ≤ 64) = true := decide_eq_true h2
      have hz : ((W : Int) == 0) = false := by rw [beq_eq_false_iff_ne]; omega
      have hr : ((n : Int) : Int).tmod (W : Int) = ((n % W : Nat) : Int) := by rw [Int.tmod_eq_emod_of_nonneg (by omega), Int.natCast_emod]
      have hq : ((n : Int) : Int).tdiv (W : Int) = ((n / W : Nat) : Int) := by rw [Int.tdiv_eq_ediv_of_nonneg (by omega), Int.natCast_ediv]
      have hq2 : wrap64 (((n : Int) : Int) / (W : Int)) = ((n / W : Nat) : Int) := by
        have : n / W ≤ n := Nat.div_le_self _ _
        have h0 : (0 : Int) ≤ ((n / W : Nat) : Int) := Int.natCast_nonneg _
        rw [← Int.natCast_ediv]
        generalize n / W = z at *
        unfold wrap64
        omega
      by_cases h3 : n % W = 0
      · have d3 : (((n % W : Nat) : Int) == 0) = true := by rw [h3]; rfl
        have h4' := div_le64 (n := n) (W := W) (by omega) h3
        by_cases h4 : n ≤ 64 * W
        · have d4 : decide (((n : Int) : Int) ≤ 64 * (W : Int)) = true := decide_eq_true (by omega)
          have d5 : decide (((n / W : Nat) : Int) ≤ 64) = true := decide_eq_true (by have := h4'.2 h4; omega)
          have hv : rowsb (W : Int) n = true := decide_eq_true ⟨h1, h2, h3, h4⟩
          rw [hv]
          go_enter Try.func26, Try.ntmps26
          go_wp2_with fail
          go_ret
          exact ⟨by simp, kept_refl _⟩
        · have d4 : decide (((n : Int) : Int) ≤ 64 * (W : Int)) = false := decide_eq_false (by omega)
          have d5 : decide (((n / W : Nat) : Int) ≤ 64) = false := decide_eq_false (fun h => h4 (h4'.1 (by omega)))
          rw [rowsb_no (w := (W : Int)) (n := n) fun h => h4 h.2.2.2]
          go_enter Try.func26, Try.ntmps26
          go_wp2_with fail
          go_ret
          exact ⟨by simp, kept_refl _⟩
      · have d3 : (((n % W : Nat) : Int) == 0) = false := by rw [beq_eq_false_iff_ne]; omega
        rw [rowsb_no (w := (W : Int)) (n := n) fun h => h3 h.2.2.1]
        go_enter Try.func26, Try.ntmps26
        go_wp2_with fail
        go_ret
        exact ⟨by simp, kept_refl _⟩
    · have d2 : decide ((W : Int) ≤ 64) = false := decide_eq_false h2
      rw [rowsb_no fun h => h2 h.2.1]
      go_enter Try.func26, Try.ntmps26
      go_wp2_with fail
      go_ret
      exact ⟨by simp, kept_refl _⟩
  · have d1 : decide (1 ≤ w) = false := decide_eq_false h1
    rw [rowsb_no fun h => h1 h.1]
    go_enter Try.func26, Try.ntmps26
    go_wp2_with fail
    go_ret
    exact ⟨by simp, kept_refl _⟩
set_option maxHeartbeats 4000000 in
theorem rfieldright_c (w : Int) (s : ByteArray) (hn : s.size ≤ 9223372036854775807) (w0 : World) : Calls Try.prog 12 #[fieldV w s] w0 (Ret (.bool (rowsb w s.size)) w0) := by
  have ka := kept_alloc (kept_refl w0) (.cells #[.int .i64 w, .string s] 23)
  by_cases h1 : 1 ≤ w
  · obtain ⟨W, rfl⟩ : ∃ W : Nat, w = (W : Int) := ⟨w.toNat, by omega⟩
    have d1 : decide (1 ≤ (W : Int)) = true := decide_eq_true h1
    by_cases h2 : (W : Int) ≤ 64
    · have d2 : decide ((W : Int) ≤ 64) = true := decide_eq_true h2
      have hz : ((W : Int) == 0) = false := by rw [beq_eq_false_iff_ne]; omega
      have hr : ((s.size : Int) : Int).tmod (W : Int) = ((s.size % W : Nat) : Int) := by rw [Int.tmod_eq_emod_of_nonneg (by omega), Int.natCast_emod]
      have hq : ((s.size : Int) : Int).tdiv (W : Int) = ((s.size / W : Nat) : Int) := by rw [Int.tdiv_eq_ediv_of_nonneg (by omega), Int.natCast_ediv]
      have hq2 : wrap64 (((s.size : Int) : Int) / (W : Int)) = ((s.size / W : Nat) : Int) := by
        have : s.size / W ≤ s.size := Nat.div_le_self _ _
        have h0 : (0 : Int) ≤ ((s.size / W : Nat) : Int) := Int.natCast_nonneg _
        rw [← Int.natCast_ediv]
        generalize s.size / W = z at *
        unfold wrap64
        omega
      by_cases h3 : s.size % W = 0
      · have d3 : (((s.size % W : Nat) : Int) == 0) = true := by rw [h3]; rfl
        have h4' := div_le64 (n := s.size) (W := W) (by omega) h3
        by_cases h4 : s.size ≤ 64 * W
        · have d4 : decide (((s.size : Int) : Int) ≤ 64 * (W : Int)) = true := decide_eq_true (by omega)
          have d5 : decide (((s.size / W : Nat) : Int) ≤ 64) = true := decide_eq_true (by have := h4'.2 h4; omega)
          have hv : rowsb (W : Int) s.size = true := decide_eq_true ⟨h1, h2, h3, h4⟩
          rw [hv]
          go_enter Try.func12, Try.ntmps12
          go_wp2_with fail
          go_ret
          exact ⟨by first | (simp; done) | (simp; rw [hq2]; omega) | (simp; rw [← Int.natCast_ediv]; omega), ka⟩
        · have d4 : decide (((s.size : Int) : Int) ≤ 64 * (W : Int)) = false := decide_eq_false (by omega)
          have d5 : decide (((s.size / W : Nat) : Int) ≤ 64) = false := decide_eq_false (fun h => h4 (h4'.1 (by omega)))
          rw [rowsb_no (w := (W : Int)) (n := s.size) fun h => h4 h.2.2.2]
          go_enter Try.func12, Try.ntmps12
          go_wp2_with fail
          go_ret
          exact ⟨by first | (simp; done) | (simp; rw [hq2]; omega) | (simp; rw [← Int.natCast_ediv]; omega), ka⟩
      · have d3 : (((s.size % W : Nat) : Int) == 0) = false := by rw [beq_eq_false_iff_ne]; omega
        rw [rowsb_no (w := (W : Int)) (n := s.size) fun h => h3 h.2.2.1]
        go_enter Try.func12, Try.ntmps12
        go_wp2_with fail
        go_ret
        exact ⟨by first | (simp; done) | (simp; rw [hq2]; omega) | (simp; rw [← Int.natCast_ediv]; omega), ka⟩
    · have d2 : decide ((W : Int) ≤ 64) = false := decide_eq_false h2
      rw [rowsb_no fun h => h2 h.2.1]
      go_enter Try.func12, Try.ntmps12
      go_wp2_with fail
      go_ret
      exact ⟨by first | (simp; done) | (simp; rw [hq2]; omega) | (simp; rw [← Int.natCast_ediv]; omega), ka⟩
  · have d1 : decide (1 ≤ w) = false := decide_eq_false h1
    rw [rowsb_no fun h => h1 h.1]
    go_enter Try.func12, Try.ntmps12
    go_wp2_with fail
    go_ret
    exact ⟨by first | (simp; done) | (simp; rw [hq2]; omega) | (simp; rw [← Int.natCast_ediv]; omega), ka⟩
theorem fieldright_c (w : Int) (s : ByteArray) (hn : s.size ≤ 9223372036854775807) (w0 : World) : Calls Try.prog 11 #[fieldV w s] w0 (Ret (.bool (rowsb w s.size)) w0) := by
  have ka := kept_alloc (kept_refl w0) (.cells #[.int .i64 w, .string s] 30)
  have R := fun w0 => gridrows_c w s.size hn w0
  generalize rowsb w s.size = b at *
  go_enter Try.func11, Try.ntmps11
  go_wp2_with fail
  refine (R _).mono ?_
  rintro e w1 ⟨rfl, hk1⟩
  go_wp2_with fail
  go_ret
  exact ⟨rfl, kept_trans ka hk1⟩
end Go.Proofs.Ythbbkmkaopgmdaa
/-
  Layer 22 (grid): which masks there are.
-/
namespace Go.Proofs.Ythbbkmkaopgmdaa
open Go.RowKit BG
attribute [local go_sem ↓] Go.wp_at_zero Go.wp_at_succ
set_option linter.unusedVariables false

def mayb (W : Int) (xs : List Int) (n : Nat) : Bool := rowsb W n && decide (0 < n) && !contv xs n zerov
set_option maxHeartbeats 2000000 in
theorem may_c (W : Int) (A : Option Addr) (cap n : Nat) (xs : List Int) (hu : U64 xs) (hl : xs.length = 4 * n) (w : World) (hr : Rd .u64 w A xs) : Calls Try.prog 13 #[maskV W A n cap] w (Ret (.bool (mayb W xs n)) w) := by
  have hm := hr.1
  have ka := kept_alloc (kept_refl w) (.cells #[.int .i64 W, .slice A n cap] 33)
  have hb := blk_new w (.cells #[.int .i64 W, .slice A n cap] 33)
  have R := fun w1 => gridrows_c W n (by omega) w1
  have C := fun w1 h => contains_c A cap n xs zerov hl w1 h
  unfold mayb
  generalize rowsb W n = rb at *
  generalize contv xs n zerov = cv at *
  unfold zerov at C
  dsimp only [Cl.v] at C
  go_enter Try.func13, Try.ntmps13
  go_wp2_with fail
  refine (R _).mono ?_
  rintro e w1 ⟨rfl, hk1⟩
  replace hb := blk_kept hk1 hb
  have hk := kept_trans ka hk1
  have c1 : w1.cell? ⟨w.heap.size, 1, none⟩ = some (.slice A n cap) := blk_cell hb 1
  clear R ka hk1
  cases rb
  · go_wp2_with fail
    go_ret
    exact ⟨by first | (simp; done) | simp [hn] | (simp; omega), hk⟩
  · by_cases hn : 0 < n
    · have hd : decide (0 < (n : Int)) = true := decide_eq_true (by omega)
      rw [decide_eq_true hn]
      go_wp2_with fail
      refine (C _ (hr.kept hk)).mono ?_
      rintro e w2 ⟨rfl, hk2⟩
      clear C c1
      go_wp2_with fail
      go_ret
      exact ⟨by simp [hn], kept_trans hk hk2⟩
    · have hd : decide (0 < (n : Int)) = false := decide_eq_false (by omega)
      rw [decide_eq_false hn]
      clear C
      go_wp2_with fail
      go_ret
      exact ⟨by first | (simp; done) | simp [hn] | (simp; omega), hk⟩
set_option maxRecDepth 100000 in
set_option maxHeartbeats 8000000 in
theorem rmay_c (W : Int) (A : Option Addr) (cap n : Nat) (xs : List Int) (hu : U64 xs) (hl : xs.length = 4 * n) (w : World) (hr : Rd .u64 w A xs) : Calls Try.prog 14 #[maskV W A n cap] w (Ret (.bool (mayb W xs n)) w) := by
  have hm := hr.1
  have ka := kept_alloc (kept_refl w) (.cells #[.int .i64 W, .slice A n cap] 26)
  have hb := blk_new w (.cells #[.int .i64 W, .slice A n cap] 26)
  by_cases h1 : 1 ≤ W
  · obtain ⟨W, rfl⟩ : ∃ V : Nat, W = (V : Int) := ⟨W.toNat, by omega⟩
    have d1 : decide ((W : Int) < 1) = false := decide_eq_false (by omega)
    by_cases h2 : (W : Int) ≤ 64
    · have d2 : decide (64 < (W : Int)) = false := decide_eq_false (by omega)
      have hz : ((W : Int) == 0) = false := by rw [beq_eq_false_iff_ne]; omega
      have hr1 : (n : Int).tmod (W : Int) = ((n % W : Nat) : Int) := by rw [Int.tmod_eq_emod_of_nonneg (by omega), Int.natCast_emod]
      have hdl : n / W ≤ n := Nat.div_le_self _ _
      have hq : wrap64 ((n : Int).tdiv (W : Int)) = ((n / W : Nat) : Int) := by
        rw [Int.tdiv_eq_ediv_of_nonneg (by omega), ← Int.natCast_ediv]
        have h0 : (0 : Int) ≤ ((n / W : Nat) : Int) := Int.natCast_nonneg _
        generalize n / W = z at *
        unfold wrap64
        omega
      have hq2 : wrap64 ((n : Int) / (W : Int)) = ((n / W : Nat) : Int) := by
        rw [Int.tdiv_eq_ediv_of_nonneg (by omega)] at hq; exact hq
      have h4'' := fun h3 => div_le64 (n := n) (W := W) (by omega) h3
      have hdm := Nat.div_add_mod n W
      generalize n / W = Q at *
      by_cases h3 : n % W = 0
      · have d3 : (((n % W : Nat) : Int) == 0) = true := by rw [h3]; rfl
        have d3' : (((n % W : Nat) : Int) != 0) = false := by rw [h3]; rfl
        have h4' := h4'' h3
        clear h4''
        by_cases h5 : 0 < n
        · have h5' : 1 ≤ Q := by
            rw [h3, Nat.add_zero] at hdm
            rcases Nat.eq_zero_or_pos Q with h | h
            · rw [h, Nat.mul_zero] at hdm; omega
            · exact h
          have d5 : decide ((Q : Int) < 1) = false := decide_eq_false (by omega)
          by_cases h4 : n ≤ 64 * W
          · have d4 : decide (64 < (Q : Int)) = false := decide_eq_false (by have := h4'.2 h4; omega)
            have hmb : mayb (W : Int) xs n = !contv xs n zerov := by
              unfold mayb
              rw [show rowsb (W : Int) n = true from decide_eq_true ⟨h1, h2, h3, h4⟩, decide_eq_true h5]; rfl
            rw [hmb]
            clear hmb h4' hdm
            have hyes : (∀ j, j < n → cls xs j ≠ zerov) → (!contv xs n zerov) = true := fun h => by rw [contv_no h]; rfl
            have hno : ∀ j, j < n → cls xs j = zerov → (!contv xs n zerov) = false := fun j hj h => by rw [contv_yes hj h]; rfl
            have HYES := Lib.hid hyes
            have HNO := Lib.hid hno
            generalize (!contv xs n zerov) = rv at *
            clear hyes hno
            have S := fun j w1 => rclsize_c (cls xs j) (cls_ok hu j) w1
            have hz := fun j => sizev_zero (cls_ok hu j)
            go_enter Try.func14, Try.ntmps14
            go_wp2_with fail
            clear hq hq2 hr1
            go_loopw [3] (fun i wr => ∃ j : Nat, j ≤ n ∧ i = .int .i64 j ∧ wr.heap[w.heap.size]? = some (.cells #[.int .i64 (W : Int), .slice A n cap] 26 (0, 0)) ∧ Kept w wr ∧ Hid (∀ q, q < j → cls xs q ≠ zerov)) (fun i _ => n - (intOf i).toNat)
            case atStart => exact ⟨0, Nat.zero_le _, rfl, hb, ka, fun q hq => absurd hq (Nat.not_lt_zero q)⟩
            case round =>
              clear hb ka
              obtain ⟨j, hj, rfl, hb, hkw, HQ⟩ := hrel
              have c1 : wr.cell? ⟨w.heap.size, 1, none⟩ = some (.slice A n cap) := blk_cell hb 1
              by_cases hlt : j < n
              · have S := S j
                have hz := hz j
                obtain ⟨ad, rfl, d0, d1, d2, d3⟩ := (hr.kept hkw).cl hl hlt
                have HQ2 : Hid (cls xs j ≠ zerov → Hid (∀ q, q < j + 1 → cls xs q ≠ zerov)) := fun ho q hq => by
                  rcases Nat.lt_or_ge q j with h | h
                  · exact HQ q h
                  · obtain rfl : q = j := by omega
                    exact ho
                have hno := HNO.out j hlt
                have HNO2 := Lib.hid hno
                clear hno HNO HYES HQ
                generalize cls xs j = x at *
                generalize sizev x = sz at *
                have HZ := Lib.hid hz
                clear hz
                obtain ⟨x0, x1, x2, x3⟩ := x
                dsimp only [Cl.v] at d0 d1 d2 d3 S
                by_cases hs : sz = 0
                · subst hs
                  obtain rfl : rv = false := HNO2.out (HZ.out.1 rfl)
                  clear HQ2 HZ HNO2
                  go_wp2_with fail
                  refine (S _).mono ?_
                  rintro e w1 ⟨rfl, hk1⟩
                  clear S d0 d1 d2 d3 c1 hb
                  go_wp2_with fail
                  go_ret
                  exact ⟨rfl, kept_trans hkw hk1⟩
                · have HQ3 := HQ2.out fun h => hs (HZ.out.2 h)
                  have hsb : (((sz : Nat) : Int) == 0) = false := beq_eq_false_iff_ne.2 (by omega)
                  clear HQ2 HZ HNO2
                  go_wp2_with fail
                  refine (S _).mono ?_
                  rintro e w1 ⟨rfl, hk1⟩
                  replace hb := blk_kept hk1 hb
                  clear S d0 d1 d2 d3 c1
                  go_wp2_with fail
                  exact ⟨⟨j + 1, by omega, by go_num, hb, kept_trans hkw hk1, HQ3⟩, by simp [intOf]; omega⟩
              · obtain rfl : j = n := by omega
                obtain rfl : rv = true := HYES.out HQ.out
                clear S HNO HYES HQ hb hz
                go_wp2_with fail
                go_ret
                exact ⟨rfl, hkw⟩
          · have d4 : decide (64 < (Q : Int)) = true := decide_eq_true (by have := fun h => h4 (h4'.1 h); omega)
            rw [show mayb (W : Int) xs n = false by unfold mayb; rw [rowsb_no (w := (W : Int)) (n := n) fun h => h4 h.2.2.2]; rfl]
            go_enter Try.func14, Try.ntmps14
            go_wp2_with fail
            go_ret
            exact ⟨rfl, ka⟩
        · have h5' : Q = 0 := by omega
          have d5 : decide ((Q : Int) < 1) = true := decide_eq_true (by omega)
          rw [show mayb (W : Int) xs n = false by unfold mayb; rw [decide_eq_false h5]; simp]
          go_enter Try.func14, Try.ntmps14
          go_wp2_with fail
          go_ret
          exact ⟨rfl, ka⟩
      · have d3 : (((n % W : Nat) : Int) == 0) = false := by rw [beq_eq_false_iff_ne]; omega
        have d3' : (((n % W : Nat) : Int) != 0) = true := by rw [bne_iff_ne]; omega
        rw [show mayb (W : Int) xs n = false by unfold mayb; rw [rowsb_no (w := (W : Int)) (n := n) fun h => h3 h.2.2.1]; rfl]
        go_enter Try.func14, Try.ntmps14
        go_wp2_with fail
        go_ret
        exact ⟨rfl, ka⟩
    · have d2 : decide (64 < (W : Int)) = true := decide_eq_true (by omega)
      rw [show mayb (W : Int) xs n = false by unfold mayb; rw [rowsb_no (w := (W : Int)) (n := n) fun h => h2 h.2.1]; rfl]
      go_enter Try.func14, Try.ntmps14
      go_wp2_with fail
      go_ret
      exact ⟨rfl, ka⟩
  · have d1 : decide (W < 1) = true := decide_eq_true (by omega)
    rw [show mayb W xs n = false by unfold mayb; rw [rowsb_no (w := W) (n := n) fun h => h1 h.1]; rfl]
    go_enter Try.func14, Try.ntmps14
    go_wp2_with fail
    go_ret
    exact ⟨rfl, ka⟩
end Go.Proofs.Ythbbkmkaopgmdaa
/-
  Layer 11 (symb): a text's bytes of a class, marked.
-/
namespace Go.Proofs.Ythbbkmkaopgmdaa
open Go.RowKit BG
attribute [local go_sem ↓] Go.wp_at_zero Go.wp_at_succ
set_option linter.unusedVariables false

def markOf (s : ByteArray) (x : Cl) (i : Nat) : Int := if hasv x (byteAt s i) = true then 1 else 0
def marksT (s : ByteArray) (x : Cl) (n q : Nat) : List Int := mk n fun i => if i < q then markOf s x i else 0
def marksv (s : ByteArray) (x : Cl) : List Int := mk s.size (markOf s x)
theorem marksT_zero (s : ByteArray) (x : Cl) (n : Nat) : marksT s x n 0 = mk n fun _ => 0 := mk_congr fun t _ => if_neg (Nat.not_lt_zero t)
theorem marksT_all (s : ByteArray) (x : Cl) : marksT s x s.size s.size = marksv s x := mk_congr fun t h => if_pos h
theorem marksT_len (s : ByteArray) (x : Cl) (n q : Nat) : (marksT s x n q).length = n := mk_length _ _
theorem marksT_yes {s : ByteArray} {x : Cl} {n q : Nat} (h : q < n) (hy : hasv x (byteAt s q) = true) : (marksT s x n q).set q 1 = marksT s x n (q + 1) := by
  unfold marksT
  rw [mk_set _ h]
  refine mk_congr fun t _ => ?_
  by_cases h1 : t = q
  · rw [if_pos h1, if_pos (by omega), h1]; unfold markOf; rw [if_pos hy]
  · rw [if_neg h1]
    by_cases h2 : t < q
    · rw [if_pos h2, if_pos (by omega)]
    · rw [if_neg h2, if_neg (by omega)]
theorem marksT_no {s : ByteArray} {x : Cl} {n q : Nat} (hy : ¬ hasv x (byteAt s q) = true) : marksT s x n (q + 1) = marksT s x n q := by
  unfold marksT
  refine mk_congr fun t _ => ?_
  by_cases h1 : t = q
  · rw [if_pos (by omega), if_neg (by omega), h1]; unfold markOf; rw [if_neg hy]
  · by_cases h2 : t < q
    · rw [if_pos h2, if_pos (by omega)]
    · rw [if_neg h2, if_neg (by omega)]
set_option maxHeartbeats 2000000 in
theorem marks1_c (s : ByteArray) (x : Cl) (hx : x.ok) (i gc gt : Nat) (hi : i < s.size) (hs : s.size ≤ 9223372036854775807) (w : World) (hc : w.heap[gc]? = some x.cells) (ht : w.cell? ⟨gt, 0, none⟩ = some (.string s)) : Calls Try.prog 56 #[.int .i64 (i : Int), .pointer (some ⟨gc, 0, none⟩), .pointer (some ⟨gt, 0, none⟩)] w (Ret (.bool (hasv x (byteAt s i))) w) := by
  have H := has_c x hx (byteAt s i) (byteAt_lt s i)
  have hbt := byteAt_eq hi
  have hb := cl_cells hc
  have hx1 : 0 ≤ (i : Int) := by omega
  have hx2 : (i : Int) < (s.size : Int) := by omega
  have hx3 : (i : Int).toNat = i := by omega
  generalize hasv x (byteAt s i) = y at *
  generalize byteAt s i = bb at *
  obtain ⟨x0, x1, x2, x3⟩ := x
  dsimp only [Cl.v, Cl.cells] at hb H
  obtain ⟨c0, c1, c2, c3⟩ := hb
  go_enter Try.func56, Try.ntmps56
  go_wp2_with fail
  have ks_0 := fun s => kw_cell s c0
  have ks_1 := fun s => kw_cell s c1
  have ks_2 := fun s => kw_cell s c2
  have ks_3 := fun s => kw_cell s c3
  have ks_4 := fun s => kw_cell s ht
  refine wp_region_kept (by kernel_rfl) (by kernel_rfl) ?_
  repeat (first | go_big_quiet_skip | (go_big_quiet_want; go_big_quiet_op; first | go_big_quiet_on | (apply Exists.intro; refine ⟨fun s => ?_, ?_⟩; (first | (go_at_call 57; exact call_kept (H _))); go_big_quiet_on)))
  refine wpQuiet_nil ?_
  rintro w7 ⟨⟨_, hk7⟩, rfl⟩
  clear ks_0 ks_1 ks_2 ks_3 ks_4 c0 c1 c2 c3 H
  go_wp2_with fail
  go_ret
  exact ⟨rfl, hk7⟩
set_option maxRecDepth 100000 in
set_option maxHeartbeats 8000000 in
theorem marksrow_c (s : ByteArray) (x : Cl) (hx : x.ok) (gc gt : Nat) (hs : s.size ≤ 1000000) (w : World) (hc : w.heap[gc]? = some x.cells) (ht : w.heap[gt]? = some (.cells #[.string s] 9 (0, 0))) : Calls Try.prog 55 #[.int .i64 (s.size : Nat), .func (.func 56) #[] #[.pointer (some ⟨gc, 0, none⟩), .pointer (some ⟨gt, 0, none⟩)]] w fun e w' => ∃ v, e = .returned v ∧ (Own .u64 59 w.heap.size w' v (marksv s x) ∧ Kept w w') := by
  obtain ⟨i1, hif1, hy0, hy1, hy2⟩ := info_parts info_u64n
  have M := fun i hi w1 a b => marks1_c s x hx i gc gt hi (by omega) w1 a b
  have hyes := fun q hq => marksT_yes (s := s) (x := x) (n := s.size) (q := q) hq
  have hno := fun q => marksT_no (s := s) (x := x) (n := s.size) (q := q)
  have hz := marksT_zero s x s.size
  have hall := marksT_all s x
  have hlen := marksT_len s x s.size
  have HYES := Lib.hid hyes
  have HNO := Lib.hid hno
  have HZ := Lib.hid hz
  have HALL := Lib.hid hall
  have HLEN := Lib.hid hlen
  clear hyes hno hz hall hlen
  generalize marksv s x = mv at *
  generalize marksT s x s.size = mt at *
  generalize hn : s.size = n at *
  have HN := Lib.hid hn
  clear hn
  go_enter Try.func55, Try.ntmps55
  go_wp2_with (refine wpList_make_full _ rfl (.tmp 7) (.tmp 7) 68 rfl w.heap.size 59 i1 (.int .u64 0) 1 Try.underlying68 hif1 hy0 hy1 .i64 .i64 _ _ n rfl rfl (by simp) (by simp) ?b2 ?b3 ?b4 ?_)
  case b2 => rw [hy2]; omega
  case b3 => unfold maxLen; omega
  case b4 => exact Nat.le_refl _
  intro w4 hown4 hgrow
  have K4 : Kept w w4 := (kept_refl w).grown hgrow (Nat.le_refl _) (fun k h => by cases h)
  rw [toList_madeCells_one] at hown4
  have hown5 : w4.ownsRow w.heap.size 59 1 (.slice (some ⟨w.heap.size, 0, none⟩) n n) n ((mt 0).map (Value.int .u64)) := by
    rw [HZ.out, mk_zero']; exact hown4
  clear hown4 hgrow HZ
  have hbz : Hid (w.heap.size ≤ w.heap.size) := Lib.hid (Nat.le_refl _)
  go_wp2_with fail
  go_loopw [11] (fun i wr => ∃ q : Nat, q ≤ n ∧ i = .int .i64 q ∧ wr.ownsRow w.heap.size 59 1 (.slice (some ⟨w.heap.size, 0, none⟩) n n) n ((mt q).map (Value.int .u64)) ∧ Kept w wr) (fun i _ => n - (intOf i).toNat)
  case atStart => exact ⟨0, Nat.zero_le _, rfl, hown5, K4⟩
  case round =>
    clear hown5 K4
    obtain ⟨q, hq, rfl, hown, hk⟩ := hrel
    by_cases hlt : q < n
    · have M := M q hlt wr (blk_kept hk hc) (blk_cell (blk_kept hk ht) 0)
      have hy := HYES.out q hlt
      have hno := HNO.out q
      have HY := Lib.hid hy
      have HO := Lib.hid hno
      clear hy hno HYES HNO HALL
      generalize hasv x (byteAt s q) = y at *
      cases y
      · have HO2 := Lib.hid (HO.out (by decide))
        clear HO HY
        go_wp2_with fail
        refine M.mono ?_
        rintro e w1 ⟨rfl, hk1⟩
        have hown1 := rowKept hown hk1
        clear M hown
        go_wp2_with fail
        exact ⟨⟨q + 1, by omega, by go_num, by rw [HO2.out]; exact hown1, kept_trans hk hk1⟩, by simp [intOf]; omega⟩
      · have HY2 := Lib.hid (HY.out rfl)
        clear HO HY
        go_wp2_with fail
        refine M.mono ?_
        rintro e w1 ⟨rfl, hk1⟩
        have hown1 := rowKept hown hk1
        have hkA := kept_trans hk hk1
        clear M hown hk hk1
        have d0 := World.ownsRow.cellAt hown1 q (by omega)
        rw [List.getElem?_map, List.getElem?_eq_getElem (by rw [HLEN.out]; omega), Option.map_some] at d0
        have f0 := World.ownsRow.frozenAt hown1 q
        have S := World.ownsRow.stored hown1 q (.int .u64 1)
        rw [← List.map_set, HY2.out] at S
        generalize (mt q)[q]'(by rw [HLEN.out]; omega) = old at *
        have ea : (⟨w.heap.size, 0, none⟩ : Addr).add q = ⟨w.heap.size, q, none⟩ := by unfold Addr.add; split <;> simp_all
        go_wp2_with fail
        exact ⟨⟨q + 1, by omega, by go_num, S.1, kept_grown hkA hown1 hbz.out S.2⟩, by simp [intOf]; omega⟩
    · obtain rfl : q = n := by omega
      rw [HALL.out] at hown
      clear M HYES HNO
      go_wp2_with fail
      go_ret
      exact ⟨_, rfl, by unfold Own; rw [show mv.length = q by rw [← HALL.out, HLEN.out]]; exact hown, hk⟩
theorem marks_c (s : ByteArray) (x : Cl) (hx : x.ok) (hs : s.size ≤ 1000000) (w : World) : Calls Try.prog 33 #[.string s, x.v] w fun e w' => ∃ v, e = .returned v ∧ (Own .u64 59 w.heap.size w' v (marksv s x) ∧ Kept w w') := by
  have ka := kept_alloc (kept_alloc (kept_refl w) (.cells #[.string s] 9)) x.cells
  have hc := blk_new1 w (.cells #[.string s] 9) x.cells
  have ht := blk_alloc (blk_new w (.cells #[.string s] 9)) x.cells
  have R := marksrow_c s x hx (w.heap.size + 1) w.heap.size hs _ hc ht
  generalize marksv s x = mv at *
  obtain ⟨x0, x1, x2, x3⟩ := x
  dsimp only [Cl.v, Cl.cells] at *
  go_enter Try.func33, Try.ntmps33
  go_wp2_with fail
  refine R.mono ?_
  rintro e w1 ⟨v1, rfl, own1, hk1⟩
  have o1 := own1.less ka.size
  clear R hc ht own1
  go_wp2_with fail
  go_ret
  exact ⟨_, rfl, o1, kept_trans ka hk1⟩
end Go.Proofs.Ythbbkmkaopgmdaa
/-
  Layer 22 (grid): are two masks the same?
-/
namespace Go.Proofs.Ythbbkmkaopgmdaa
open Go.RowKit BG
attribute [local go_sem ↓] Go.wp_at_zero Go.wp_at_succ
set_option linter.unusedVariables false

def sameM (V W : Int) (xs ys : List Int) (n m : Nat) : Bool := decide (V = W) && decide (n = m) && (List.range n).all fun j => decide (cls xs j = cls ys j)
set_option maxRecDepth 100000 in
set_option maxHeartbeats 8000000 in
theorem masksame_c (V W : Int) (A B : Option Addr) (ca cb n m : Nat) (xs ys : List Int) (hl : xs.length = 4 * n) (hl2 : ys.length = 4 * m) (w : World) (hr : Rd .u64 w A xs) (hs : Rd .u64 w B ys) : Calls Try.prog 20 #[maskV V A n ca, maskV W B m cb] w (Ret (.bool (sameM V W xs ys n m)) w) := by
  have hm := hr.1
  have hm2 := hs.1
  have ka := kept_alloc (kept_alloc (kept_refl w) (.cells #[.int .i64 V, .slice A n ca] 26)) (.cells #[.int .i64 W, .slice B m cb] 26)
  have hba := blk_alloc (blk_new w (.cells #[.int .i64 V, .slice A n ca] 26)) (.cells #[.int .i64 W, .slice B m cb] 26)
  have hbb := blk_new1 w (.cells #[.int .i64 V, .slice A n ca] 26) (.cells #[.int .i64 W, .slice B m cb] 26)
  by_cases hVW : V = W
  · subst hVW
    by_cases hnm : n = m
    · subst hnm
      have hyes : (∀ j, j < n → cls xs j = cls ys j) → sameM V V xs ys n n = true := fun h => by
        unfold sameM
        rw [decide_eq_true rfl, decide_eq_true rfl, Bool.true_and, Bool.true_and, List.all_eq_true]
        exact fun j hj => decide_eq_true (h j (List.mem_range.1 hj))
      have hno : ∀ j, j < n → cls xs j ≠ cls ys j → sameM V V xs ys n n = false := fun j hj h => by
        unfold sameM
        rw [decide_eq_true rfl, decide_eq_true rfl, Bool.true_and, Bool.true_and, List.all_eq_false]
        exact ⟨j, List.mem_range.2 hj, by simpa using h⟩
      have HYES := Lib.hid hyes
      have HNO := Lib.hid hno
      generalize sameM V V xs ys n n = rv at *
      clear hyes hno
      have E := fun j w1 => eqCl (cls xs j) (cls ys j) w1
      go_enter Try.func20, Try.ntmps20
      go_wp2_with fail
      go_loopw [5] (fun i wr => ∃ j : Nat, j ≤ n ∧ i = .int .i64 j ∧ wr.heap[w.heap.size]? = some (.cells #[.int .i64 V, .slice A n ca] 26 (0, 0)) ∧ wr.heap[w.heap.size + 1]? = some (.cells #[.int .i64 V, .slice B n cb] 26 (0, 0)) ∧ Kept w wr ∧ Hid (∀ q, q < j → cls xs q = cls ys q)) (fun i _ => n - (intOf i).toNat)
      case atStart => exact ⟨0, Nat.zero_le _, rfl, hba, hbb, ka, fun q hq => absurd hq (Nat.not_lt_zero q)⟩
      case round =>
        clear hba hbb ka
        obtain ⟨j, hj, rfl, hba, hbb, hkw, HQ⟩ := hrel
        have e0 : wr.cell? ⟨w.heap.size, 1, none⟩ = some (.slice A n ca) := blk_cell hba 1
        have e1 : wr.cell? ⟨w.heap.size + 1, 1, none⟩ = some (.slice B n cb) := blk_cell hbb 1
        by_cases hlt : j < n
        · have E := E j
          obtain ⟨ad, rfl, d0, d1, d2, d3⟩ := (hr.kept hkw).cl hl hlt
          obtain ⟨bd, rfl, c0, c1, c2, c3⟩ := (hs.kept hkw).cl hl2 hlt
          have hno := HNO.out j hlt
          have HN := Lib.hid hno
          have HQ2 : Hid (cls xs j = cls ys j → Hid (∀ q, q < j + 1 → cls xs q = cls ys q)) := fun ho q hq => by
            rcases Nat.lt_or_ge q j with h | h
            · exact HQ q h
            · obtain rfl : q = j := by omega
              exact ho
          clear hno HNO HYES HQ
          generalize cls xs j = x at *
          generalize cls ys j = y at *
          obtain ⟨x0, x1, x2, x3⟩ := x
          obtain ⟨y0, y1, y2, y3⟩ := y
          dsimp only [Cl.v] at d0 d1 d2 d3 c0 c1 c2 c3 E
          generalize hbe : decide ((⟨x0, x1, x2, x3⟩ : Cl) = ⟨y0, y1, y2, y3⟩) = be at *
          have HBE := Lib.hid hbe
          clear hbe
          go_wp2_with fail
          have ks_0 := fun s => kw_cell s c0
          have ks_1 := fun s => kw_cell s c1
          have ks_2 := fun s => kw_cell s c2
          have ks_3 := fun s => kw_cell s c3
          have ls_0 := fun s => kw_cell s d0
          have ls_1 := fun s => kw_cell s d1
          have ls_2 := fun s => kw_cell s d2
          have ls_3 := fun s => kw_cell s d3
          have ms_0 := fun s => kw_cell s e0
          have ms_1 := fun s => kw_cell s e1
          refine wp_region_kept (by kernel_rfl) (by kernel_rfl) ?_
          repeat (first | go_big_quiet_skip | (go_big_quiet_want; go_big_quiet_op; go_big_quiet_on))
          refine wpQuiet_nil ?_
          rintro w7 ⟨⟨_, hk7⟩, rfl⟩
          clear ks_0 ks_1 ks_2 ks_3 ls_0 ls_1 ls_2 ls_3 ms_0 ms_1 c0 c1 c2 c3 d0 d1 d2 d3 e0 e1 E
          replace hba := blk_kept hk7 hba
          replace hbb := blk_kept hk7 hbb
          replace hkw := kept_trans hkw hk7
          cases be
          · obtain rfl : rv = false := HN.out (of_decide_eq_false HBE.out)
            clear HN HQ2 HBE hba hbb
            go_wp2_with fail
            go_ret
            exact ⟨rfl, hkw⟩
          · have HQ3 := HQ2.out (of_decide_eq_true HBE.out)
            clear HN HQ2 HBE
            go_wp2_with fail
            exact ⟨⟨j + 1, by omega, by go_num, hba, hbb, hkw, HQ3⟩, by simp [intOf]; omega⟩
        · obtain rfl : j = n := by omega
          obtain rfl : rv = true := HYES.out HQ.out
          clear HYES HNO HQ E hba hbb
          go_wp2_with fail
          go_ret
          exact ⟨rfl, hkw⟩
    · rw [show sameM V V xs ys n m = false by unfold sameM; rw [decide_eq_false hnm]; simp]
      have h1 : ((n : Int) == (m : Int)) = false := by rw [beq_eq_false_iff_ne]; omega
      have h2 : ((n : Int) != (m : Int)) = true := by rw [bne_iff_ne]; omega
      go_enter Try.func20, Try.ntmps20
      go_wp2_with fail
      go_ret
      exact ⟨rfl, ka⟩
  · rw [show sameM V W xs ys n m = false by unfold sameM; rw [decide_eq_false hVW]; simp]
    have h1 : (V == W) = false := by rw [beq_eq_false_iff_ne]; exact hVW
    have h2 : (V != W) = true := by rw [bne_iff_ne]; exact hVW
    go_enter Try.func20, Try.ntmps20
    go_wp2_with fail
    go_ret
    exact ⟨rfl, ka⟩
end Go.Proofs.Ythbbkmkaopgmdaa
/-
  Layer 22 (grid): does a mask stand at a place?
-/
namespace Go.Proofs.Ythbbkmkaopgmdaa
open Go.RowKit BG
attribute [local go_sem ↓] Go.wp_at_zero Go.wp_at_succ
set_option linter.unusedVariables false

def atP (F V x y i : Nat) : Nat := (y + i / V) * F + x + i % V
theorem tdiv_nat (j V : Nat) : (j : Int).tdiv (V : Int) = ((j / V : Nat) : Int) := by rw [Int.tdiv_eq_ediv_of_nonneg (by omega), Int.natCast_ediv]
theorem tmod_nat (j V : Nat) : (j : Int).tmod (V : Int) = ((j % V : Nat) : Int) := by rw [Int.tmod_eq_emod_of_nonneg (by omega), Int.natCast_emod]
theorem wrap_nat {n : Nat} (h : n ≤ 9223372036854775807) : wrap64 (n : Int) = (n : Int) := by unfold wrap64; omega
theorem wdiv_nat (j V : Nat) (h : j ≤ 9223372036854775807) : wrap64 ((j : Int) / (V : Int)) = ((j / V : Nat) : Int) := by
  rw [← Int.natCast_ediv]
  exact wrap_nat (Nat.le_trans (Nat.div_le_self _ _) h)
theorem at_arith (F V x y j : Nat) (hF : 1 ≤ F) (h : atP F V x y j ≤ 1000000) : ∃ YY PP ZZ : Nat, wrap64 ((y : Int) + ((j / V : Nat) : Int)) = (YY : Int) ∧ wrap64 ((YY : Int) * (F : Int)) = (PP : Int) ∧ wrap64 ((PP : Int) + (x : Int)) = (ZZ : Int) ∧ wrap64 ((ZZ : Int) + ((j % V : Nat) : Int)) = ((atP F V x y j : Nat) : Int) := by
  unfold atP at h ⊢
  have h1 : y + j / V ≤ (y + j / V) * F := Nat.le_mul_of_pos_right _ hF
  refine ⟨y + j / V, (y + j / V) * F, (y + j / V) * F + x, ?_, ?_, ?_, ?_⟩
  · rw [← Int.natCast_add]; exact wrap_nat (by omega)
  · rw [← Int.natCast_mul]; exact wrap_nat (by omega)
  · rw [← Int.natCast_add]; exact wrap_nat (by omega)
  · rw [← Int.natCast_add]; exact wrap_nat (by omega)
def standsv (xs : List Int) (n : Nat) (s : ByteArray) (F V x y : Nat) : Bool := (List.range n).all fun i => hasv (cls xs i) (byteAt s (atP F V x y i))
set_option maxRecDepth 100000 in
set_option maxHeartbeats 8000000 in
theorem stands_c (F V x y : Nat) (s : ByteArray) (A : Option Addr) (cap n : Nat) (xs : List Int) (hu : U64 xs) (hl : xs.length = 4 * n) (hV : 1 ≤ V) (hV2 : V ≤ 64) (hF : 1 ≤ F) (hn : n ≤ 1000000) (hs : s.size ≤ 1000000) (hat : ∀ i, i < n → atP F V x y i < s.size) (w : World) (hr : Rd .u64 w A xs) : Calls Try.prog 35 #[fieldV F s, maskV V A n cap, .int .i64 (x : Nat), .int .i64 (y : Nat)] w (Ret (.bool (standsv xs n s F V x y)) w) := by
  have hm := hr.1
  have ka := kept_alloc (kept_alloc (kept_refl w) (.cells #[.int .i64 (F : Nat), .string s] 23)) (.cells #[.int .i64 (V : Nat), .slice A n cap] 26)
  have hba := blk_alloc (blk_new w (.cells #[.int .i64 (F : Nat), .string s] 23)) (.cells #[.int .i64 (V : Nat), .slice A n cap] 26)
  have hbb := blk_new1 w (.cells #[.int .i64 (F : Nat), .string s] 23) (.cells #[.int .i64 (V : Nat), .slice A n cap] 26)
  have hyes : (∀ j, j < n → hasv (cls xs j) (byteAt s (atP F V x y j)) = true) → standsv xs n s F V x y = true := fun h => by
    unfold standsv
    rw [List.all_eq_true]
    exact fun j hj => h j (List.mem_range.1 hj)
  have hno : ∀ j, j < n → hasv (cls xs j) (byteAt s (atP F V x y j)) = false → standsv xs n s F V x y = false := fun j hj h => by
    unfold standsv
    rw [List.all_eq_false]
    exact ⟨j, List.mem_range.2 hj, by rw [h]; decide⟩
  have HYES := Lib.hid hyes
  have HNO := Lib.hid hno
  generalize standsv xs n s F V x y = rv at *
  clear hyes hno
  have H := fun j b hb w1 => rhas_c (cls xs j) (cls_ok hu j) b hb w1
  go_enter Try.func35, Try.ntmps35
  go_wp2_with fail
  go_loopw [9] (fun i wr => ∃ j : Nat, j ≤ n ∧ i = .int .i64 j ∧ wr.heap[w.heap.size]? = some (.cells #[.int .i64 (F : Nat), .string s] 23 (0, 0)) ∧ wr.heap[w.heap.size + 1]? = some (.cells #[.int .i64 (V : Nat), .slice A n cap] 26 (0, 0)) ∧ Kept w wr ∧ Hid (∀ q, q < j → hasv (cls xs q) (byteAt s (atP F V x y q)) = true)) (fun i _ => n - (intOf i).toNat)
  case atStart => exact ⟨0, Nat.zero_le _, rfl, hba, hbb, ka, fun q hq => absurd hq (Nat.not_lt_zero q)⟩
  case round =>
    clear hba hbb ka
    obtain ⟨j, hj, rfl, hba, hbb, hkw, HQ⟩ := hrel
    have a0 : wr.cell? ⟨w.heap.size, 0, none⟩ = some (.int .i64 (F : Nat)) := blk_cell hba 0
    have a1 : wr.cell? ⟨w.heap.size, 1, none⟩ = some (.string s) := blk_cell hba 1
    have e0 : wr.cell? ⟨w.heap.size + 1, 0, none⟩ = some (.int .i64 (V : Nat)) := blk_cell hbb 0
    have e1 : wr.cell? ⟨w.heap.size + 1, 1, none⟩ = some (.slice A n cap) := blk_cell hbb 1
    by_cases hlt : j < n
    · have H := H j
      have hT := hat j hlt
      have HQ2 : Hid (hasv (cls xs j) (byteAt s (atP F V x y j)) = true → Hid (∀ q, q < j + 1 → hasv (cls xs q) (byteAt s (atP F V x y q)) = true)) := fun ho q hq => by
        rcases Nat.lt_or_ge q j with h | h
        · exact HQ q h
        · obtain rfl : q = j := by omega
          exact ho
      have HN := Lib.hid (HNO.out j hlt)
      obtain ⟨ad, rfl, d0, d1, d2, d3⟩ := (hr.kept hkw).cl hl hlt
      have hz : ((V : Int) == 0) = false := by rw [beq_eq_false_iff_ne]; omega
      have hQ := tdiv_nat j V
      have w0 : wrap64 ((j / V : Nat) : Int) = ((j / V : Nat) : Int) := wrap_nat (Nat.le_trans (Nat.div_le_self _ _) (by omega))
      have hR := tmod_nat j V
      have hQw := wdiv_nat j V (by omega)
      obtain ⟨YY, PP, ZZ, w1, w2, w3, w4⟩ := at_arith F V x y j hF (by omega : atP F V x y j ≤ 1000000)
      have hx1 : 0 ≤ ((atP F V x y j : Nat) : Int) := Int.natCast_nonneg _
      have hx2 : ((atP F V x y j : Nat) : Int) < (s.size : Int) := Int.ofNat_lt.2 hT
      have hx3 : ((atP F V x y j : Nat) : Int).toNat = atP F V x y j := Int.toNat_natCast _
      generalize atP F V x y j = TT at *
      generalize j / V = Q at *
      generalize j % V = RR at *
      have hbt := byteAt_eq hT
      have H := H (byteAt s TT) (byteAt_lt s TT)
      clear HNO HYES HQ
      generalize hasv (cls xs j) (byteAt s TT) = hv at *
      generalize byteAt s TT = bb at *
      generalize cls xs j = xx at *
      obtain ⟨x0, x1, x2, x3⟩ := xx
      dsimp only [Cl.v] at d0 d1 d2 d3 H
      go_wp2_with fail
      have as_0 := fun s => kw_cell s a0
      have es_0 := fun s => kw_cell s e0
      refine wp_region_kept (by kernel_rfl) (by kernel_rfl) ?_
      repeat (first | go_big_quiet_skip | (go_big_quiet_want; go_big_quiet_op; go_big_quiet_on))
      refine wpQuiet_nil ?_
      rintro w6 ⟨⟨_, hk6⟩, rfl⟩
      clear as_0 es_0
      replace a1 := kept_cell hk6 a1
      replace e1 := kept_cell hk6 e1
      replace d0 := kept_cell hk6 d0
      replace d1 := kept_cell hk6 d1
      replace d2 := kept_cell hk6 d2
      replace d3 := kept_cell hk6 d3
      replace hba := blk_kept hk6 hba
      replace hbb := blk_kept hk6 hbb
      replace hkw := kept_trans hkw hk6
      clear a0 e0 hk6
      go_wp2_with fail
      simp only [w0, w1, w2, w3, w4]
      clear w0 w1 w2 w3 w4 hQ hQw hR
      have as_1 := fun s => kw_cell s a1
      have es_1 := fun s => kw_cell s e1
      have ds_0 := fun s => kw_cell s d0
      have ds_1 := fun s => kw_cell s d1
      have ds_2 := fun s => kw_cell s d2
      have ds_3 := fun s => kw_cell s d3
      refine wp_region_kept (by kernel_rfl) (by kernel_rfl) ?_
      repeat (first | go_big_quiet_skip | (go_big_quiet_want; go_big_quiet_op; first | go_big_quiet_on | (apply Exists.intro; refine ⟨fun s => ?_, ?_⟩; (first | (go_at_call 58; exact call_kept (H _))); go_big_quiet_on)))
      refine wpQuiet_nil ?_
      rintro w7 ⟨⟨_, hk7⟩, rfl⟩
      clear as_1 es_1 ds_0 ds_1 ds_2 ds_3 a1 e1 d0 d1 d2 d3 H
      replace hba := blk_kept hk7 hba
      replace hbb := blk_kept hk7 hbb
      replace hkw := kept_trans hkw hk7
      clear hk7
      cases hv
      · obtain rfl : rv = false := HN.out rfl
        clear HN HQ2 hba hbb
        go_wp2_with fail
        go_ret
        exact ⟨rfl, hkw⟩
      · have HQ3 := HQ2.out rfl
        clear HN HQ2
        go_wp2_with fail
        exact ⟨⟨j + 1, by omega, by go_num, hba, hbb, hkw, HQ3⟩, by simp [intOf]; omega⟩
    · obtain rfl : j = n := by omega
      obtain rfl : rv = true := HYES.out HQ.out
      clear HYES HNO HQ H hba hbb
      go_wp2_with fail
      go_ret
      exact ⟨rfl, hkw⟩
end Go.Proofs.Ythbbkmkaopgmdaa
/-
  Layer 22 (grid): the kinds of a mask's classes.
-/
namespace Go.Proofs.Ythbbkmkaopgmdaa
open Go.RowKit BG
attribute [local go_sem ↓] Go.wp_at_zero Go.wp_at_succ
set_option linter.unusedVariables false

/-- The classes that are not full, each once. -/
def kindsC (xs : List Int) : Nat → List Cl
  | 0 => []
  | n + 1 => if cls xs n = fullv then kindsC xs n else if cls xs n ∈ kindsC xs n then kindsC xs n else kindsC xs n ++ [cls xs n]
def flatC (l : List Cl) : List Int := l.flatMap clL
theorem flatC_length (l : List Cl) : (flatC l).length = 4 * l.length := by
  unfold flatC
  induction l with
  | nil => rfl
  | cons a l ih => rw [List.flatMap_cons, List.length_append, ih, List.length_cons]; simp [clL]; omega
theorem flatC_append (l : List Cl) (x : Cl) : flatC (l ++ [x]) = flatC l ++ clL x := by unfold flatC; rw [List.flatMap_append]; simp
theorem flatC_cls (l : List Cl) : ∀ j (h : j < l.length), cls (flatC l) j = l[j] := by
  induction l with
  | nil => intro j h; exact absurd h (Nat.not_lt_zero j)
  | cons a l ih =>
    intro j h
    have e : flatC (a :: l) = clL a ++ flatC l := by unfold flatC; rw [List.flatMap_cons]
    rw [e]
    have hl : (clL a).length = 4 := rfl
    cases j with
    | zero =>
      unfold cls
      rw [nth_append_l (by rw [hl]; decide), nth_append_l (by rw [hl]; decide), nth_append_l (by rw [hl]; decide), nth_append_l (by rw [hl]; decide)]
      rfl
    | succ j =>
      have := ih j (by simpa using h)
      unfold cls at this ⊢
      rw [nth_append_r (by rw [hl]; omega), nth_append_r (by rw [hl]; omega), nth_append_r (by rw [hl]; omega), nth_append_r (by rw [hl]; omega), hl, show (j + 1) * 4 - 4 = j * 4 by omega, show (j + 1) * 4 + 1 - 4 = j * 4 + 1 by omega, show (j + 1) * 4 + 2 - 4 = j * 4 + 2 by omega, show (j + 1) * 4 + 3 - 4 = j * 4 + 3 by omega]
      exact this
theorem flatC_cont (l : List Cl) (x : Cl) : contv (flatC l) l.length x = decide (x ∈ l) := by
  by_cases h : x ∈ l
  · obtain ⟨j, hj, e⟩ := List.mem_iff_getElem.1 h
    rw [decide_eq_true h]
    exact contv_yes hj (by rw [flatC_cls l j hj]; exact e)
  · rw [decide_eq_false h]
    exact contv_no fun j hj e => h (by rw [flatC_cls l j hj] at e; rw [← e]; exact List.getElem_mem _)
theorem kindsC_le (xs : List Int) : ∀ n, (kindsC xs n).length ≤ n
  | 0 => Nat.le_refl _
  | n + 1 => by
    have := kindsC_le xs n
    unfold kindsC
    split
    · omega
    · split
      · omega
      · rw [List.length_append]; simp; omega
theorem kindsC_full {xs : List Int} {n : Nat} (h : decide (cls xs n = fullv) = true) : kindsC xs (n + 1) = kindsC xs n := by
  show (if cls xs n = fullv then kindsC xs n else _) = _
  rw [if_pos (of_decide_eq_true h)]
theorem kindsC_in {xs : List Int} {n : Nat} (h : decide (cls xs n = fullv) = false) (hc : contv (flatC (kindsC xs n)) (kindsC xs n).length (cls xs n) = true) : kindsC xs (n + 1) = kindsC xs n := by
  show (if cls xs n = fullv then kindsC xs n else if cls xs n ∈ kindsC xs n then kindsC xs n else _) = _
  rw [flatC_cont] at hc
  rw [if_neg (of_decide_eq_false h), if_pos (of_decide_eq_true hc)]
theorem kindsC_new {xs : List Int} {n : Nat} (h : decide (cls xs n = fullv) = false) (hc : contv (flatC (kindsC xs n)) (kindsC xs n).length (cls xs n) = false) : kindsC xs (n + 1) = kindsC xs n ++ [cls xs n] := by
  show (if cls xs n = fullv then kindsC xs n else if cls xs n ∈ kindsC xs n then kindsC xs n else _) = _
  rw [flatC_cont] at hc
  rw [if_neg (of_decide_eq_false h), if_neg (of_decide_eq_false hc)]
set_option maxRecDepth 100000 in
set_option maxHeartbeats 8000000 in
theorem kinds_c (W : Int) (A : Option Addr) (cap n : Nat) (xs : List Int) (hu : U64 xs) (hl : xs.length = 4 * n) (hn : n ≤ 1000000) (w : World) (hr : Rd .u64 w A xs) : Calls Try.prog 31 #[maskV W A n cap] w fun e w' => ∃ v, e = .returned v ∧ w'.ownsRow w.heap.size 61 4 v (kindsC xs n).length ((flatC (kindsC xs n)).map (Value.int .u64)) ∧ Kept w w' := by
  obtain ⟨i1, hif1, hy0, hy1, hy2⟩ := info_parts info_class
  have ka := kept_alloc (kept_refl w) (.cells #[.int .i64 W, .slice A n cap] 33)
  have hb := blk_new w (.cells #[.int .i64 W, .slice A n cap] 33)
  go_enter Try.func31, Try.ntmps31
  go_wp2_with fail
  go_loopw [3, 9] (fun v i wr => ∃ j : Nat, j ≤ n ∧ i = .int .i64 j ∧ wr.ownsRow w.heap.size 61 4 v (kindsC xs j).length ((flatC (kindsC xs j)).map (Value.int .u64)) ∧ Kept w wr) (fun _ i _ => n - (intOf i).toNat)
  case atStart => exact ⟨0, Nat.zero_le _, rfl, World.ownsRow_nil _ _ _ _, ka⟩
  case round =>
    clear ka hb
    obtain ⟨j, hj, rfl, hown, hkw⟩ := hrel
    have hkl := kindsC_le xs j
    have hfl := flatC_length (kindsC xs j)
    by_cases hlt : j < n
    · obtain ⟨A', cap', rfl, hc', rd'⟩ := ownN_rd hown hfl (by omega)
      have F := fun w1 => full_c w1
      have E := fun w1 => eqCl (cls xs j) fullv w1
      have C := fun w1 h => contains_c A' cap' (kindsC xs j).length (flatC (kindsC xs j)) (cls xs j) hfl w1 h
      obtain ⟨ad, rfl, d0, d1, d2, d3⟩ := (hr.kept hkw).cl hl hlt
      have hK1 := kindsC_full (xs := xs) (n := j)
      have hK2 := kindsC_in (xs := xs) (n := j)
      have hK3 := fun h h2 => by have := kindsC_new (xs := xs) (n := j) h h2; have h3 := congrArg flatC this; rw [flatC_append] at h3; exact (⟨congrArg List.length this, h3⟩ : _ ∧ _)
      rw [List.length_append] at hK3
      have HK1 := Lib.hid hK1
      have HK2 := Lib.hid hK2
      have HK3 := Lib.hid hK3
      clear hK1 hK2 hK3
      generalize decide (cls xs j = fullv) = b at *
      generalize contv (flatC (kindsC xs j)) (kindsC xs j).length (cls xs j) = cv at *
      have hbase := hkw.size
      generalize hx : cls xs j = x at *
      clear hx
      have kb := kept_alloc (kept_refl wr) x.cells
      have hb := blk_new wr x.cells
      have HC := Lib.hid (rfl : clL x = clL x)
      obtain ⟨x0, x1, x2, x3⟩ := x
      dsimp only [Cl.v, fullv, Cl.cells] at d0 d1 d2 d3 E F C kb hb
      have c0 := blk_cell hb 0
      have c1 := blk_cell hb 1
      have c2 := blk_cell hb 2
      have c3 := blk_cell hb 3
      generalize hmm : (kindsC xs j).length = m at *
      generalize hff : flatC (kindsC xs j) = fl at *
      have HM := Lib.hid (⟨hmm, hff⟩ : _ ∧ _)
      clear hmm hff
      have rdb := rd'.kept kb
      cases b
      · go_wp2_with fail
        have ks_0 := fun s => kw_cell s c0
        have ks_1 := fun s => kw_cell s c1
        have ks_2 := fun s => kw_cell s c2
        have ks_3 := fun s => kw_cell s c3
        refine wp_region_kept (by kernel_rfl) (by kernel_rfl) ?_
        repeat (first | go_big_quiet_skip | (go_big_quiet_want; go_big_quiet_op; first | go_big_quiet_on | (apply Exists.intro; refine ⟨fun s => ?_, ?_⟩; (first | (go_at_call 44; exact call_kept (F _)) | (go_at_call 27; exact call_kept (C _ (rdb.kept s.kept)))); go_big_quiet_on)))
        refine wpQuiet_nil ?_
        rintro w7 ⟨⟨_, hk7⟩, rfl⟩
        clear ks_0 ks_1 ks_2 ks_3 c0 c1 c2 c3 E F C rdb
        have hbk := kept_trans kb hk7
        replace hkw := kept_trans hkw hbk
        replace hb := blk_kept hk7 hb
        have own7 := rowKept hown hbk
        have hs7 : w.heap.size ≤ w7.heap.size := hkw.size
        cases cv
        · obtain ⟨hK3a, hK3b⟩ := HK3.out (by first | rfl | trivial) (by first | rfl | trivial)
          have HKA := Lib.hid hK3a
          have HKB := Lib.hid hK3b
          clear HK1 HK2 HK3 hK3a hK3b d0 d1 d2 d3 kb hbk hown
          have c0 : w7.cell? ⟨wr.heap.size, 0, none⟩ = some (.int .u64 x0) := blk_cell hb 0
          have c1 : w7.cell? ⟨wr.heap.size, 1, none⟩ = some (.int .u64 x1) := blk_cell hb 1
          have c2 : w7.cell? ⟨wr.heap.size, 2, none⟩ = some (.int .u64 x2) := blk_cell hb 2
          have c3 : w7.cell? ⟨wr.heap.size, 3, none⟩ = some (.int .u64 x3) := blk_cell hb 3
          go_wp2_with (at_builtin; refine wpList_append_lies _ rfl _ _ 24 rfl w.heap.size 61 i1 _ 4 32 Try.underlying24 hif1 hy0 hy1 hy2 rfl (by decide) _ _ _ rfl (own7.alloc _) ⟨w7.heap.size, 0, none⟩ 1 1 [.int .u64 x0, .int .u64 x1, .int .u64 x2, .int .u64 x3] rfl rfl ?c1 ?c2 ?c3 ?c4 ?c5 ?c6 (w7.heap.size + 1) ?c7 ?_)
          case c1 => exact World.news_of_block (cs := #[.int .u64 x0, .int .u64 x1, .int .u64 x2, .int .u64 x3]) (t := 61) (fr := (0, 0)) (heap_alloc_new w7 _)
          case c2 => simp [Value.oneCell']
          case c3 => decide
          case c4 => unfold maxLen; omega
          case c5 => omega
          case c6 => simp; omega
          case c7 => simp
          intro g capn wn own9 hgrow hat hlt9
          have K9 := kept_grown (kept_alloc hkw _) (own7.alloc _) (Nat.le_refl _) hgrow
          have own10 : wn.ownsRow w.heap.size 61 4 (.slice (some ⟨g, 0, none⟩) (m + 1) capn) (kindsC xs (j + 1)).length ((flatC (kindsC xs (j + 1))).map (Value.int .u64)) := by
            rw [HKA.out, HKB.out, List.map_append]; exact own9
          clear own7 own9 hgrow hat hlt9 hkw c0 c1 c2 c3 hb HKA HKB hif1 hy0 hy1 hy2
          go_wp2_with fail
          exact ⟨⟨j + 1, by omega, by go_num, own10, K9⟩, by simp [intOf]; omega⟩
        · have hK2 := HK2.out (by first | rfl | trivial) (by first | rfl | trivial)
          have HO := Lib.hid (⟨hK2, own7⟩ : _ ∧ _)
          clear HK1 HK2 HK3 hK2 d0 d1 d2 d3 kb hbk hown hb own7
          go_wp2_with fail
          exact ⟨⟨j + 1, by omega, by go_num, by rw [HO.out.1, HM.out.1, HM.out.2]; exact HO.out.2, hkw⟩, by simp [intOf]; omega⟩
      · go_wp2_with fail
        have ks_0 := fun s => kw_cell s c0
        have ks_1 := fun s => kw_cell s c1
        have ks_2 := fun s => kw_cell s c2
        have ks_3 := fun s => kw_cell s c3
        refine wp_region_kept (by kernel_rfl) (by kernel_rfl) ?_
        repeat (first | go_big_quiet_skip | (go_big_quiet_want; go_big_quiet_op; first | go_big_quiet_on | (apply Exists.intro; refine ⟨fun s => ?_, ?_⟩; (first | (go_at_call 44; exact call_kept (F _))); go_big_quiet_on)))
        refine wpQuiet_nil ?_
        rintro w7 ⟨⟨_, hk7⟩, rfl⟩
        clear ks_0 ks_1 ks_2 ks_3 c0 c1 c2 c3 E F C rdb
        have hbk := kept_trans kb hk7
        replace hkw := kept_trans hkw hbk
        have own7 := rowKept hown hbk
        have hK1 := HK1.out (by first | rfl | trivial)
        have HO := Lib.hid (⟨hK1, own7⟩ : _ ∧ _)
        clear HK1 HK2 HK3 hK1 d0 d1 d2 d3 kb hbk hown hb own7
        go_wp2_with fail
        exact ⟨⟨j + 1, by omega, by go_num, by rw [HO.out.1, HM.out.1, HM.out.2]; exact HO.out.2, hkw⟩, by simp [intOf]; omega⟩
    · obtain rfl : j = n := by omega
      go_wp2_with fail
      go_ret
      exact ⟨_, rfl, hown, hkw⟩
end Go.Proofs.Ythbbkmkaopgmdaa
/-
  Layer 22 (grid): how many kinds of classes a mask has, by the document.
-/
namespace Go.Proofs.Ythbbkmkaopgmdaa
open Go.RowKit BG
attribute [local go_sem ↓] Go.wp_at_zero Go.wp_at_succ
set_option linter.unusedVariables false

theorem mem_kinds {xs : List Int} {x : Cl} : ∀ {n : Nat}, x ∈ kindsC xs n ↔ x ≠ fullv ∧ ∃ q, q < n ∧ cls xs q = x
  | 0 => by simp [kindsC]
  | n + 1 => by
    have ih := mem_kinds (xs := xs) (x := x) (n := n)
    unfold kindsC
    split
    · rename_i h
      rw [ih]
      constructor
      · rintro ⟨h1, q, hq, e⟩; exact ⟨h1, q, by omega, e⟩
      · rintro ⟨h1, q, hq, e⟩
        refine ⟨h1, q, ?_, e⟩
        rcases Nat.lt_or_ge q n with h2 | h2
        · exact h2
        · obtain rfl : q = n := by omega
          exact absurd (e.symm.trans h) h1
    · rename_i h
      split
      · rename_i h2
        rw [ih]
        constructor
        · rintro ⟨h1, q, hq, e⟩; exact ⟨h1, q, by omega, e⟩
        · rintro ⟨h1, q, hq, e⟩
          rcases Nat.lt_or_ge q n with h3 | h3
          · exact ⟨h1, q, h3, e⟩
          · obtain rfl : q = n := by omega
            rw [e] at h2
            exact ih.1 h2
      · rename_i h2
        rw [List.mem_append, ih, List.mem_singleton]
        constructor
        · rintro (⟨h1, q, hq, e⟩ | e)
          · exact ⟨h1, q, by omega, e⟩
          · exact ⟨by rw [e]; exact h, n, by omega, e.symm⟩
        · rintro ⟨h1, q, hq, e⟩
          rcases Nat.lt_or_ge q n with h3 | h3
          · exact .inl ⟨h1, q, h3, e⟩
          · obtain rfl : q = n := by omega
            exact .inr e.symm
theorem kinds_next {xs : List Int} {n : Nat} {b : Bool} (h : b = true ↔ cls xs n ≠ fullv ∧ ∀ q, q < n → cls xs q ≠ cls xs n) : (kindsC xs (n + 1)).length = (kindsC xs n).length + if b then 1 else 0 := by
  show (if cls xs n = fullv then kindsC xs n else if cls xs n ∈ kindsC xs n then kindsC xs n else kindsC xs n ++ [cls xs n]).length = _
  split
  · rename_i h1
    have : b = false := by cases b; rfl; exact absurd h1 (h.1 rfl).1
    rw [this]; rfl
  · rename_i h1
    split
    · rename_i h2
      obtain ⟨_, q, hq, e⟩ := mem_kinds.1 h2
      have : b = false := by cases b; rfl; exact absurd e ((h.1 rfl).2 q hq)
      rw [this]; rfl
    · rename_i h2
      have : b = true := h.2 ⟨h1, fun q hq e => h2 (mem_kinds.2 ⟨h1, q, hq, e⟩)⟩
      rw [this, List.length_append]; rfl
theorem size_lt {x : Cl} (hx : x.ok) : decide (((sizev x : Nat) : Int) < 256) = !decide (x = fullv) := by
  have h1 := sizev_le x
  have h2 := sizev_full hx
  by_cases h : x = fullv
  · have h3 := h2.2 h
    have h4 : ¬ ((sizev x : Nat) : Int) < 256 := by rw [h3]; decide
    rw [decide_eq_true h, decide_eq_false h4]; rfl
  · have h3 : sizev x ≠ 256 := fun e => h (h2.1 e)
    have h4 : ((sizev x : Nat) : Int) < 256 := by omega
    rw [decide_eq_false h, decide_eq_true h4]; rfl
set_option maxRecDepth 100000 in
set_option maxHeartbeats 8000000 in
theorem rkinds_c (W : Int) (A : Option Addr) (cap n : Nat) (xs : List Int) (hu : U64 xs) (hl : xs.length = 4 * n) (hn : n ≤ 1000000) (w : World) (hr : Rd .u64 w A xs) : Calls Try.prog 36 #[maskV W A n cap] w (Ret (.int .i64 ((kindsC xs n).length : Nat)) w) := by
  have ka := kept_alloc (kept_refl w) (.cells #[.int .i64 W, .slice A n cap] 26)
  have hb := blk_new w (.cells #[.int .i64 W, .slice A n cap] 26)
  go_enter Try.func36, Try.ntmps36
  go_wp2_with fail
  go_loopw [3, 4] (fun k i wr => ∃ j : Nat, j ≤ n ∧ i = .int .i64 j ∧ k = .int .i64 ((kindsC xs j).length : Nat) ∧ wr.heap[w.heap.size]? = some (.cells #[.int .i64 W, .slice A n cap] 26 (0, 0)) ∧ Kept w wr) (fun _ i _ => n - (intOf i).toNat)
  case atStart => exact ⟨0, Nat.zero_le _, rfl, rfl, hb, ka⟩
  case round =>
    clear ka hb
    obtain ⟨j, hj, rfl, rfl, hb, hkw⟩ := hrel
    have hkl := kindsC_le xs j
    have e1 : wr.cell? ⟨w.heap.size, 1, none⟩ = some (.slice A n cap) := blk_cell hb 1
    by_cases hlt : j < n
    · have hN := fun b => kinds_next (xs := xs) (n := j) (b := b)
      have HN := Lib.hid hN
      clear hN
      have S := fun w1 => rclsize_c (cls xs j) (cls_ok hu j) w1
      have hsz := size_lt (cls_ok hu j)
      obtain ⟨ad, rfl, d0, d1, d2, d3⟩ := (hr.kept hkw).cl hl hlt
      have HB : Hid ((!decide (cls xs j = fullv)) = true ↔ cls xs j ≠ fullv ∧ ∀ q, q < 0 → cls xs q ≠ cls xs j) := by
        have : ((!decide (cls xs j = fullv)) = true ↔ cls xs j ≠ fullv ∧ ∀ q, q < 0 → cls xs q ≠ cls xs j) := by simp
        exact Lib.hid this
      generalize (!decide (cls xs j = fullv)) = b0 at *
      generalize sizev (cls xs j) = sz at *
      have hxj : ∃ x, x = cls xs j := ⟨_, rfl⟩
      obtain ⟨x, hxj⟩ := hxj
      have HX := Lib.hid hxj
      rw [← hxj] at d0 d1 d2 d3 S
      clear hxj
      generalize hkk : (kindsC xs j).length = kk at *
      have HK := Lib.hid hkk
      clear hkk
      obtain ⟨x0, x1, x2, x3⟩ := x
      dsimp only [Cl.v] at d0 d1 d2 d3 S
      go_wp2_with fail
      refine (S _).mono ?_
      rintro e wS ⟨rfl, hkS⟩
      replace hb := blk_kept hkS hb
      replace hkw := kept_trans hkw hkS
      clear S d0 d1 d2 d3 hkS e1
      go_wp2_with fail
      go_loopw [5, 6] (fun f i wr => ∃ p : Nat, p ≤ j ∧ i = .int .i64 p ∧ ∃ b : Bool, f = .bool b ∧ Hid (b = true ↔ cls xs j ≠ fullv ∧ ∀ q, q < p → cls xs q ≠ cls xs j) ∧ wr.heap[w.heap.size]? = some (.cells #[.int .i64 W, .slice (some ad) n cap] 26 (0, 0)) ∧ Kept w wr) (fun _ i _ => j - (intOf i).toNat)
      case atStart => exact ⟨0, Nat.zero_le _, rfl, b0, rfl, HB, hb, hkw⟩
      case round =>
        clear HB hb hkw hsz
        obtain ⟨p, hp, rfl, b, rfl, HP, hb, hkw⟩ := hrel
        have e1 : wr.cell? ⟨w.heap.size, 1, none⟩ = some (.slice (some ad) n cap) := blk_cell hb 1
        by_cases hpl : p < j
        · have HP2 : ∀ c : Bool, c = decide (cls xs p = cls xs j) → Hid ((b && !c) = true ↔ cls xs j ≠ fullv ∧ ∀ q, q < p + 1 → cls xs q ≠ cls xs j) := fun c hc => by
            have : ((b && !c) = true ↔ cls xs j ≠ fullv ∧ ∀ q, q < p + 1 → cls xs q ≠ cls xs j) := by
              subst hc
              rw [Bool.and_eq_true, HP.out, Bool.not_eq_true', decide_eq_false_iff_not]
              constructor
              · rintro ⟨⟨h1, h2⟩, h3⟩
                refine ⟨h1, fun q hq => ?_⟩
                rcases Nat.lt_or_ge q p with h | h
                · exact h2 q h
                · obtain rfl : q = p := by omega
                  exact h3
              · rintro ⟨h1, h2⟩
                exact ⟨⟨h1, fun q hq => h2 q (by omega)⟩, h2 p (by omega)⟩
            exact Lib.hid this
          have E := fun w1 => eqCl (cls xs p) (cls xs j) w1
          have HP3 := HP2 _ rfl
          generalize decide (cls xs p = cls xs j) = c at *
          obtain ⟨ad', had, d0, d1, d2, d3⟩ := (hr.kept hkw).cl hl (Nat.lt_trans hpl hlt)
          obtain ⟨ad'', had', f0, f1, f2, f3⟩ := (hr.kept hkw).cl hl hlt
          cases had
          cases had'
          clear HP HP2
          have HX' := HX.out
          rw [← HX'] at E f0 f1 f2 f3
          clear HX'
          generalize hyp : cls xs p = y at *
          clear hyp
          obtain ⟨y0, y1, y2, y3⟩ := y
          dsimp only [Cl.v] at d0 d1 d2 d3 f0 f1 f2 f3 E
          cases b
          · clear E d0 d1 d2 d3 f0 f1 f2 f3
            go_wp2_with fail
            go_quiet (fail)
            go_wp2_with fail
            exact ⟨⟨p + 1, by omega, by go_num, false, rfl, by simpa using HP3, hb, kept_drewN hkw _⟩, by simp [intOf]; omega⟩
          · go_wp2_with fail
            go_quiet (fail)
            go_wp2_with fail
            exact ⟨⟨p + 1, by omega, by go_num, !c, rfl, by simpa using HP3, hb, kept_drewN hkw _⟩, by simp [intOf]; omega⟩
        · obtain rfl : p = j := by omega
          have hN := HN.out b HP.out
          cases b
          · go_wp2_with fail
            exact ⟨⟨p + 1, by omega, by go_num, by rw [hN]; rfl, hb, hkw⟩, by simp [intOf]; omega⟩
          · go_wp2_with fail
            exact ⟨⟨p + 1, by omega, by go_num, by rw [hN]; simp, hb, hkw⟩, by simp [intOf]; omega⟩
    · obtain rfl : j = n := by omega
      go_wp2_with fail
      go_ret
      exact ⟨rfl, hkw⟩
end Go.Proofs.Ythbbkmkaopgmdaa
/-
  Layer 22 (grid): the row of one class of a mask.
-/
namespace Go.Proofs.Ythbbkmkaopgmdaa
open Go.RowKit BG
attribute [local go_sem ↓] Go.wp_at_zero Go.wp_at_succ
set_option linter.unusedVariables false

/-- Where a mask's element stands in a row of the field. -/
def posk (F V k : Nat) : Nat := k / V * F + k % V
def hitk (xs : List Int) (F V : Nat) (x : Cl) (q t : Nat) : Bool := (List.range q).any fun k => decide (cls xs k = x) && (posk F V k == t)
def rowN (xs : List Int) (F V : Nat) (x : Cl) (L q : Nat) : List Int := mk L fun t => if hitk xs F V x q t = true then 1 else 0
def cntN (xs : List Int) (x : Cl) (q : Nat) : Nat := (List.range q).countP fun k => decide (cls xs k = x)
theorem cntN_succ (xs : List Int) (x : Cl) (q : Nat) : cntN xs x (q + 1) = cntN xs x q + if decide (cls xs q = x) then 1 else 0 := by
  unfold cntN
  rw [List.range_succ, List.countP_append, List.countP_singleton]
theorem cntN_le (xs : List Int) (x : Cl) (q : Nat) : cntN xs x q ≤ q := by
  unfold cntN
  exact Nat.le_trans List.countP_le_length (by simp)
theorem hitk_succ (xs : List Int) (F V : Nat) (x : Cl) (q t : Nat) : hitk xs F V x (q + 1) t = (hitk xs F V x q t || (decide (cls xs q = x) && (posk F V q == t))) := by
  unfold hitk
  rw [List.range_succ, List.any_append]
  simp
theorem rowN_zero (xs : List Int) (F V : Nat) (x : Cl) (L : Nat) : rowN xs F V x L 0 = mk L fun _ => 0 := mk_congr fun t _ => by simp [hitk]
theorem rowN_len (xs : List Int) (F V : Nat) (x : Cl) (L q : Nat) : (rowN xs F V x L q).length = L := mk_length _ _
theorem rowN_yes {xs : List Int} {F V : Nat} {x : Cl} {L q : Nat} (h : posk F V q < L) (hy : decide (cls xs q = x) = true) : (rowN xs F V x L q).set (posk F V q) 1 = rowN xs F V x L (q + 1) := by
  unfold rowN
  rw [mk_set _ h]
  refine mk_congr fun t _ => ?_
  rw [hitk_succ, hy]
  by_cases h1 : t = posk F V q
  · rw [if_pos h1, if_pos (by rw [h1]; simp)]
  · rw [if_neg h1]
    have : (posk F V q == t) = false := beq_eq_false_iff_ne.2 fun e => h1 e.symm
    rw [this]; simp
theorem rowN_no {xs : List Int} {F V : Nat} {x : Cl} {L q : Nat} (hy : decide (cls xs q = x) = false) : rowN xs F V x L (q + 1) = rowN xs F V x L q := by
  unfold rowN
  refine mk_congr fun t _ => ?_
  rw [hitk_succ, hy]; simp
theorem pos_arith (F V j : Nat) (h : posk F V j ≤ 1000000) : ∃ PP : Nat, wrap64 (((j / V : Nat) : Int) * (F : Int)) = (PP : Int) ∧ wrap64 ((PP : Int) + ((j % V : Nat) : Int)) = ((posk F V j : Nat) : Int) := by
  unfold posk at h ⊢
  refine ⟨j / V * F, ?_, ?_⟩
  · rw [← Int.natCast_mul]; exact wrap_nat (by omega)
  · rw [← Int.natCast_add]; exact wrap_nat (by omega)
theorem cell_at {w : World} {g : Nat} {cs : Array Value} {t : TypeId} (h : w.heap[g]? = some (.cells cs t (0, 0))) (k : Nat) {v : Value} (hv : cs[k]? = some v) : w.cell? ⟨g, k, none⟩ = some v := by rw [← hv]; exact blk_cell h k
theorem blk_lt' {w : World} {g : Nat} {o : Obj} (h : w.heap[g]? = some o) : g < w.heap.size := (Array.getElem?_eq_some_iff.1 h).1
set_option maxRecDepth 100000 in
set_option maxHeartbeats 8000000 in
theorem findrow_c (x : Cl) (hx : x.ok) (F V L : Nat) (s : ByteArray) (A : Option Addr) (cap n : Nat) (xs : List Int) (hu : U64 xs) (hl : xs.length = 4 * n) (hn : n ≤ 1000000) (hV : 1 ≤ V) (hL : L ≤ 1000000) (hpos : ∀ k, k < n → posk F V k < L) (gl gm gf : Nat) (w : World) (hr : Rd .u64 w A xs) (hgl : w.heap[gl]? = some (.cells #[.int .i64 (L : Nat)] 3 (0, 0))) (hgm : w.heap[gm]? = some (.cells #[.int .i64 (V : Nat), .slice A n cap] 33 (0, 0))) (hgf : w.heap[gf]? = some (.cells #[.int .i64 (F : Nat), .string s] 30 (0, 0))) : Calls Try.prog 30 #[x.v, .pointer (some ⟨gl, 0, none⟩), .pointer (some ⟨gm, 0, none⟩), .pointer (some ⟨gf, 0, none⟩)] w fun e w' => ∃ v, e = .returned (.tuple #[v, .int .u64 (cntN xs x n : Nat)]) ∧ Own .u64 59 w.heap.size w' v (rowN xs F V x L n) ∧ Kept w w' := by
  obtain ⟨i1, hif1, hy0, hy1, hy2⟩ := info_parts info_u64n
  have ka := kept_alloc (kept_refl w) x.cells
  have hbx := blk_new w x.cells
  have K1 := kept_refl (w.alloc x.cells)
  replace hr := hr.kept ka
  replace hgl := blk_alloc hgl x.cells
  replace hgm := blk_alloc hgm x.cells
  replace hgf := blk_alloc hgf x.cells
  have hs1 : (w.alloc x.cells).heap.size = w.heap.size + 1 := by simp
  have l0 : (w.alloc x.cells).cell? ⟨gl, 0, none⟩ = some (.int .i64 (L : Nat)) := cell_at hgl 0 rfl
  have m1 : (w.alloc x.cells).cell? ⟨gm, 1, none⟩ = some (.slice A n cap) := cell_at hgm 1 rfl
  have hgl' := blk_lt' hgl
  have hgm' := blk_lt' hgm
  have hgf' := blk_lt' hgf
  have hyes := fun q h => rowN_yes (xs := xs) (F := F) (V := V) (x := x) (L := L) (q := q) h
  have hno := fun q => rowN_no (xs := xs) (F := F) (V := V) (x := x) (L := L) (q := q)
  have hz := rowN_zero xs F V x L
  have hlen := rowN_len xs F V x L
  have hc := cntN_succ xs x
  have hcl := cntN_le xs x
  have hc0 : cntN xs x 0 = 0 := rfl
  have EE := fun q w1 => eqCl (cls xs q) x w1
  have HYES := Lib.hid hyes
  have HNO := Lib.hid hno
  have HZ := Lib.hid hz
  have HLEN := Lib.hid hlen
  have HC := Lib.hid hc
  have HCL := Lib.hid hcl
  have HC0 := Lib.hid hc0
  have HPOS := Lib.hid hpos
  clear hyes hno hz hlen hc hcl hc0 hpos
  generalize rowN xs F V x L = mt at *
  generalize cntN xs x = ct at *
  obtain ⟨x0, x1, x2, x3⟩ := x
  dsimp only [Cl.v, Cl.cells] at *
  go_enter Try.func30, Try.ntmps30
  go_wp2_with (refine wpList_make_full _ rfl (.tmp 11) (.tmp 11) 68 rfl (w.heap.size + 1) 59 i1 (.int .u64 0) 1 Try.underlying68 hif1 hy0 hy1 .i64 .i64 _ _ L rfl rfl (by simp) (by simp) ?b2 ?b3 ?b4 ?_)
  case b2 => rw [hy2]; omega
  case b3 => unfold maxLen; omega
  case b4 => simp
  intro w4 hown4 hgrow
  have K4 := (kept_refl (w.alloc (.cells #[.int .u64 x0, .int .u64 x1, .int .u64 x2, .int .u64 x3] 61))).grown hgrow (Nat.le_refl _) (fun k h => by cases h)
  rw [toList_madeCells_one] at hown4
  have hown5 : w4.ownsRow (w.heap.size + 1) 59 1 (.slice (some ⟨w.heap.size + 1, 0, none⟩) L L) L ((mt 0).map (Value.int .u64)) := by
    rw [HZ.out, mk_zero']; exact hown4
  have m1' := kept_cell K4 m1
  clear hown4 hgrow HZ l0 m1 K1
  go_wp2_with fail
  go_loopw [8, 16] (fun c i wr => ∃ q : Nat, q ≤ n ∧ i = .int .i64 q ∧ c = .int .u64 (ct q : Nat) ∧ wr.ownsRow (w.heap.size + 1) 59 1 (.slice (some ⟨w.heap.size + 1, 0, none⟩) L L) L ((mt q).map (Value.int .u64)) ∧ Kept (w.alloc (.cells #[.int .u64 x0, .int .u64 x1, .int .u64 x2, .int .u64 x3] 61)) wr) (fun _ i _ => n - (intOf i).toNat)
  case atStart => exact ⟨0, Nat.zero_le _, rfl, by rw [HC0.out]; rfl, hown5, K4⟩
  case round =>
    clear hown5 K4 m1'
    obtain ⟨q, hq, rfl, rfl, hown, hk⟩ := hrel
    by_cases hlt : q < n
    · have E := fun w1 => EE q w1
      obtain ⟨ad, rfl, d0, d1, d2, d3⟩ := (hr.kept hk).cl hl hlt
      have hyes := HYES.out q (HPOS.out q hlt)
      have hno := HNO.out q
      have hc := HC.out q
      have hbk := blk_kept hk hbx
      have c0 := cell_at hbk 0 rfl
      have c1 := cell_at hbk 1 rfl
      have c2 := cell_at hbk 2 rfl
      have c3 := cell_at hbk 3 rfl
      have hlb := blk_lt' hbk
      have hcq := HCL.out q
      generalize hb0 : decide (cls xs q = (⟨x0, x1, x2, x3⟩ : Cl)) = b at *
      clear hb0
      generalize cls xs q = y at *
      obtain ⟨y0, y1, y2, y3⟩ := y
      dsimp only at d0 d1 d2 d3 E
      have kb := kept_alloc (kept_refl wr) (.cells #[.int .u64 y0, .int .u64 y1, .int .u64 y2, .int .u64 y3] 61)
      cases b
      · have hm := hno rfl
        have hc2 : ct (q + 1) = ct q := by rw [hc]; rfl
        have own7 := rowKept hown kb
        have HM := Lib.hid (⟨hm, hc2⟩ : _ ∧ _)
        clear hm hc2 hyes hno hc hown
        go_wp2_with fail
        exact ⟨⟨q + 1, by omega, by go_num, by rw [HM.out.2], by rw [HM.out.1]; exact own7, kept_trans hk kb⟩, by simp [intOf]; omega⟩
      · have hm := hyes rfl
        have hc2 : ct (q + 1) = ct q + 1 := by rw [hc]; rfl
        have HM := Lib.hid (⟨hm, hc2⟩ : _ ∧ _)
        clear hm hc2 hyes hno hc
        have hkb := kept_trans hk kb
        have hownA := rowKept hown kb
        have m0 := cell_at (blk_kept hkb hgm) 0 rfl
        have f0 := cell_at (blk_kept hkb hgf) 0 rfl
        clear hown
        have hP := HPOS.out q hlt
        have hz : ((V : Int) == 0) = false := by rw [beq_eq_false_iff_ne]; omega
        have hQ := tdiv_nat q V
        have hQw := wdiv_nat q V (by omega)
        have hR := tmod_nat q V
        have w0 : wrap64 ((q / V : Nat) : Int) = ((q / V : Nat) : Int) := wrap_nat (Nat.le_trans (Nat.div_le_self _ _) (by omega))
        obtain ⟨PP, w1, w2⟩ := pos_arith F V q (by omega)
        have hx1 : 0 ≤ ((posk F V q : Nat) : Int) := Int.natCast_nonneg _
        have hx2 : ((posk F V q : Nat) : Int) < (L : Int) := Int.ofNat_lt.2 hP
        have hx3 : ((posk F V q : Nat) : Int).toNat = posk F V q := Int.toNat_natCast _
        generalize posk F V q = TT at *
        generalize q / V = Q at *
        generalize q % V = RR at *
        go_wp2_with fail
        have ms_0 := fun s => kw_cell s m0
        have fs_0 := fun s => kw_cell s f0
        refine wp_region_tail 13 (by kernel_rfl) (by kernel_rfl) ?_
        simp only [List.take_succ_cons, List.take_zero, List.drop_succ_cons, List.drop_zero]
        repeat (first | go_big_quiet_skip | (go_big_quiet_want; go_big_quiet_op; go_big_quiet_on))
        refine wpQuiet_nil ?_
        rintro w13 ⟨⟨_, hk13⟩, rfl⟩
        simp only [w0, w1, w2]
        clear ms_0 fs_0 m0 f0 d0 d1 d2 d3 c0 c1 c2 c3 E hbk hlb kb w0 w1 w2 hQ hQw hR
        have hkA := kept_trans hkb hk13
        have hownB := rowKept hownA hk13
        have hnl := HLEN.out q
        have e0 := World.ownsRow.cellAt hownB TT (by omega)
        rw [List.getElem?_map, List.getElem?_eq_getElem (by omega), Option.map_some] at e0
        have g0 := World.ownsRow.frozenAt hownB TT
        have S := World.ownsRow.stored hownB TT (.int .u64 1)
        rw [← List.map_set, HM.out.1] at S
        generalize (mt q)[TT]'(by omega) = old at *
        clear hownA hkb hk hk13 hnl
        go_wp2_with fail
        exact ⟨⟨q + 1, by omega, by go_num, by rw [HM.out.2]; go_num, S.1, kept_grown hkA hownB (by omega) S.2⟩, by simp [intOf]; omega⟩
    · obtain rfl : q = n := by omega
      go_wp2_with fail
      have hO : Own .u64 59 w.heap.size wr (.slice (some ⟨w.heap.size + 1, 0, none⟩) L L) (mt q) := by
        unfold Own
        rw [HLEN.out]
        exact rowLess hown (by omega)
      exact bodyPost_ret (v := .tuple #[.slice (some ⟨w.heap.size + 1, 0, none⟩) L L, .int .u64 (ct q : Nat)]) (by simp [results, Try.results30, go_sem]) rfl ⟨_, rfl, hO, kept_trans ka hk⟩
end Go.Proofs.Ythbbkmkaopgmdaa
