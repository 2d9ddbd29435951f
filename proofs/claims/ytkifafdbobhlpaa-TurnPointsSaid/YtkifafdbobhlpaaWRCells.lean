/-
  Layer 21 (turn): the cells of a turned field, by the document.
-/
import Derived.Test.YtkifafdbobhlpaaWCells
namespace Go.Proofs.Ytkifafdbobhlpaa
open Go.RowKit BG
attribute [local go_sem ↓] Go.wp_at_zero Go.wp_at_succ
set_option linter.unusedVariables false

theorem mul_bd64 (a b : Int) (h0 : 0 ≤ a) (h1 : a ≤ 64) (h2 : 0 ≤ b) (h3 : b ≤ 64) : 0 ≤ a * b ∧ a * b ≤ 4096 := ⟨Int.mul_nonneg h0 h2, by have := Int.mul_le_mul h1 h3 h2 (by decide); omega⟩
/-- The first n cells of the turned field. -/
def firstv (w h : Nat) (k : Int) (n : Nat) : List Int := mk n fun p => ((cellAt w h k p : Nat) : Int)
set_option maxRecDepth 100000 in
set_option maxHeartbeats 2000000 in
theorem rcells_yes (m h : Nat) (k : Int) (hw : 0 < m) (hh : 0 < h) (hw2 : m ≤ 64) (hh2 : h ≤ 64) (w : World) : Calls Try.prog 18 #[.int .i64 m, .int .i64 h, .int .i64 k] w fun e w' => ∃ v, e = .returned (.tuple #[v, .int .i64 (wideN m h k : Nat), .int .i64 (highN m h k : Nat), .bool true]) ∧ Own .i64 3 w.heap.size w' v (cellsv m h k) ∧ Kept w w' := by
  have g1 : decide ((m : Int) < 1) = false := decide_eq_false (by omega)
  have g2 : decide (64 < (m : Int)) = false := decide_eq_false (by omega)
  have g3 : decide ((h : Int) < 1) = false := decide_eq_false (by omega)
  have g4 : decide (64 < (h : Int)) = false := decide_eq_false (by omega)
  obtain ⟨i1, hif1, hy0, hy1, hy2⟩ := info_parts info_i64
  have q : k % 4 = 0 ∨ k % 4 = 1 ∨ k % 4 = 2 ∨ k % 4 = 3 := by omega
  rcases q with q | q | q | q
  · have HW0 : wideN m h k = m := by simp [wideN, q]
    have HH0 : highN m h k = h := by simp [highN, q]
    have CV0 : ∀ x y, cellXY m h k x y = y * m + x := fun x y => by simp [cellXY, q]
    have HW := Lib.hid HW0
    have HH := Lib.hid HH0
    have CV := Lib.hid CV0
    clear HW0 HH0 CV0
    have Q := Lib.hid q
    clear q
    rw [HW.out, HH.out]
    go_enter Try.func18, Try.ntmps18
    go_wp2_with fail
    refine (quarters_c k _).mono ?_
    rw [Q.out]
    rintro e w1 ⟨rfl, rfl⟩
    go_wp2_with fail
    go_loopw [12, 13] (fun v i wr => ∃ y : Nat, y ≤ h ∧ i = .int .i64 y ∧ Own .i64 3 w1.heap.size wr v (firstv m h k (y * m)) ∧ Kept w1 wr) (fun _ i _ => h - (intOf i).toNat)
    case atStart => exact ⟨0, Nat.zero_le _, rfl, by rw [Nat.zero_mul]; exact Own.nil _ _ _ _, kept_refl _⟩
    case round =>
      obtain ⟨y, hy, rfl, hown, hk⟩ := hrel
      by_cases hlt : y < h
      · go_wp2_with fail
        go_loopw [12, 14] (fun v i wr => ∃ x : Nat, x ≤ m ∧ i = .int .i64 x ∧ Own .i64 3 w1.heap.size wr v (firstv m h k (y * m + x)) ∧ Kept w1 wr) (fun _ i _ => m - (intOf i).toNat)
        case atStart => exact ⟨0, Nat.zero_le _, rfl, hown, hk⟩
        case round =>
          clear hown hk
          obtain ⟨x, hx, rfl, hown, hk⟩ := hrel
          by_cases hlx : x < m
          · go_wp2_with fail
            refine (quarters_c k _).mono ?_
            rw [Q.out]
            rintro e w2 ⟨rfl, rfl⟩
            have hown2 : World.ownsRow _ _ _ _ _ _ _ := hown
            have hlen : (firstv m h k (y * m + x)).length = y * m + x := mk_length _ _
            rw [hlen] at hown2
            have hbase := hk.size
            have hm1 : (y : Int) * m ≤ 4096 := (mul_bd64 _ _ (by omega) (by omega) (by omega) (by omega)).2
            have hm0 : 0 ≤ (y : Int) * m := (mul_bd64 _ _ (by omega) (by omega) (by omega) (by omega)).1
            have hNle : y * m + x < 8192 := by have := Nat.mul_le_mul (show y ≤ 64 by omega) (show m ≤ 64 by omega); omega
            clear hown hlen
            go_wp2_with (at_builtin; refine wpList_append_own _ rfl _ _ 37 rfl w1.heap.size 3 i1 (.int .i64 0) 1 8 Try.underlying37 hif1 hy0 hy1 hy2 rfl (by decide) _ _ _ rfl (hown2.alloc _) ⟨w2.heap.size, 0, none⟩ 1 1 [.int .i64 ((y : Int) * m + x)] rfl rfl ?c1 ?c2 ?c3 ?c4 ?c5 ?_)
            case c1 =>
              intro q u hq
              match q, hq with
              | 0, hq => simp at hq; subst hq; simp [Addr.add]
            case c2 => intro u hu; simp at hu; subst hu; rfl
            case c3 => unfold maxLen; omega
            case c4 => omega
            case c5 => simp; omega
            · intro v' w5 hown' hgrow _
              have hv : ((y : Int) * m + x) = ((cellAt m h k (y * m + x) : Nat) : Int) := by
                obtain ⟨d1, d2⟩ := divmod (a := y) hlx
                unfold cellAt
                rw [HW.out, d1, d2, CV.out]
                rw [Int.natCast_add, Int.natCast_mul]
              rw [hv] at hown'
              have R : Own .i64 3 w1.heap.size w5 v' (firstv m h k (y * m + x + 1)) := Own.appended (f := fun p => ((cellAt m h k p : Nat) : Int)) hown'
              have K := kept_grown (kept_alloc hk _) (hown2.alloc _) (Nat.le_refl _) hgrow
              clear hown' hgrow hown2 hv
              go_wp2_with fail
              exact ⟨⟨x + 1, by omega, by go_num, R, K⟩, by simp [intOf]; omega⟩
          · have hxe := Lib.hid (show x = m by omega)
            clear hx
            go_wp2_with fail
            have hxe := hxe.out
            have e : y * m + x = (y + 1) * m := by rw [Nat.add_mul, Nat.one_mul]; omega
            exact ⟨⟨y + 1, by omega, by go_num, by rw [← e]; exact hown, hk⟩, by simp [intOf]; omega⟩
      · have hye : y = h := by omega
        have hs := size_eq m h k
        rw [HW.out, HH.out] at hs
        have HS := Lib.hid hs
        have HE := Lib.hid hye
        clear hs hye
        go_wp2_with fail
        have e : y * m = m * h := by rw [HE.out, Nat.mul_comm]
        rw [e] at hown
        exact bodyPost_ret (v := .tuple #[u12, .int .i64 (m : Int), .int .i64 (h : Int), .bool true]) (by simp [results, Try.results18, go_sem]) rfl ⟨_, rfl, hown, hk⟩
  · have HW0 : wideN m h k = h := by simp [wideN, q]
    have HH0 : highN m h k = m := by simp [highN, q]
    have CV0 : ∀ x y, cellXY m h k x y = (h - 1 - x) * m + y := fun x y => by simp [cellXY, q]
    have HW := Lib.hid HW0
    have HH := Lib.hid HH0
    have CV := Lib.hid CV0
    clear HW0 HH0 CV0
    have Q := Lib.hid q
    clear q
    rw [HW.out, HH.out]
    go_enter Try.func18, Try.ntmps18
    go_wp2_with fail
    refine (quarters_c k _).mono ?_
    rw [Q.out]
    rintro e w1 ⟨rfl, rfl⟩
    go_wp2_with fail
    go_loopw [12, 13] (fun v i wr => ∃ y : Nat, y ≤ m ∧ i = .int .i64 y ∧ Own .i64 3 w1.heap.size wr v (firstv m h k (y * h)) ∧ Kept w1 wr) (fun _ i _ => m - (intOf i).toNat)
    case atStart => exact ⟨0, Nat.zero_le _, rfl, by rw [Nat.zero_mul]; exact Own.nil _ _ _ _, kept_refl _⟩
    case round =>
      obtain ⟨y, hy, rfl, hown, hk⟩ := hrel
      by_cases hlt : y < m
      · go_wp2_with fail
        go_loopw [12, 14] (fun v i wr => ∃ x : Nat, x ≤ h ∧ i = .int .i64 x ∧ Own .i64 3 w1.heap.size wr v (firstv m h k (y * h + x)) ∧ Kept w1 wr) (fun _ i _ => h - (intOf i).toNat)
        case atStart => exact ⟨0, Nat.zero_le _, rfl, hown, hk⟩
        case round =>
          clear hown hk
          obtain ⟨x, hx, rfl, hown, hk⟩ := hrel
          by_cases hlx : x < h
          · go_wp2_with fail
            refine (quarters_c k _).mono ?_
            rw [Q.out]
            rintro e w2 ⟨rfl, rfl⟩
            have hown2 : World.ownsRow _ _ _ _ _ _ _ := hown
            have hlen : (firstv m h k (y * h + x)).length = y * h + x := mk_length _ _
            rw [hlen] at hown2
            have hbase := hk.size
            have hm1 : ((h : Int) - 1 - x) * m ≤ 4096 := (mul_bd64 _ _ (by omega) (by omega) (by omega) (by omega)).2
            have hm0 : 0 ≤ ((h : Int) - 1 - x) * m := (mul_bd64 _ _ (by omega) (by omega) (by omega) (by omega)).1
            have hNle : y * h + x < 8192 := by have := Nat.mul_le_mul (show y ≤ 64 by omega) (show h ≤ 64 by omega); omega
            clear hown hlen
            go_wp2_with (at_builtin; refine wpList_append_own _ rfl _ _ 37 rfl w1.heap.size 3 i1 (.int .i64 0) 1 8 Try.underlying37 hif1 hy0 hy1 hy2 rfl (by decide) _ _ _ rfl (hown2.alloc _) ⟨w2.heap.size, 0, none⟩ 1 1 [.int .i64 (((h : Int) - 1 - x) * m + y)] rfl rfl ?c1 ?c2 ?c3 ?c4 ?c5 ?_)
            case c1 =>
              intro q u hq
              match q, hq with
              | 0, hq => simp at hq; subst hq; simp [Addr.add]
            case c2 => intro u hu; simp at hu; subst hu; rfl
            case c3 => unfold maxLen; omega
            case c4 => omega
            case c5 => simp; omega
            · intro v' w5 hown' hgrow _
              have hv : (((h : Int) - 1 - x) * m + y) = ((cellAt m h k (y * h + x) : Nat) : Int) := by
                obtain ⟨d1, d2⟩ := divmod (a := y) hlx
                unfold cellAt
                rw [HW.out, d1, d2, CV.out]
                rw [Int.natCast_add, Int.natCast_mul, show ((h - 1 - x : Nat) : Int) = (h : Int) - 1 - x by omega]
              rw [hv] at hown'
              have R : Own .i64 3 w1.heap.size w5 v' (firstv m h k (y * h + x + 1)) := Own.appended (f := fun p => ((cellAt m h k p : Nat) : Int)) hown'
              have K := kept_grown (kept_alloc hk _) (hown2.alloc _) (Nat.le_refl _) hgrow
              clear hown' hgrow hown2 hv
              go_wp2_with fail
              exact ⟨⟨x + 1, by omega, by go_num, R, K⟩, by simp [intOf]; omega⟩
          · have hxe := Lib.hid (show x = h by omega)
            clear hx
            go_wp2_with fail
            have hxe := hxe.out
            have e : y * h + x = (y + 1) * h := by rw [Nat.add_mul, Nat.one_mul]; omega
            exact ⟨⟨y + 1, by omega, by go_num, by rw [← e]; exact hown, hk⟩, by simp [intOf]; omega⟩
      · have hye : y = m := by omega
        have hs := size_eq m h k
        rw [HW.out, HH.out] at hs
        have HS := Lib.hid hs
        have HE := Lib.hid hye
        clear hs hye
        go_wp2_with fail
        have e : y * h = m * h := by rw [HE.out, Nat.mul_comm]
        rw [e] at hown
        exact bodyPost_ret (v := .tuple #[u12, .int .i64 (h : Int), .int .i64 (m : Int), .bool true]) (by simp [results, Try.results18, go_sem]) rfl ⟨_, rfl, hown, hk⟩
  · have HW0 : wideN m h k = m := by simp [wideN, q]
    have HH0 : highN m h k = h := by simp [highN, q]
    have CV0 : ∀ x y, cellXY m h k x y = (h - 1 - y) * m + (m - 1 - x) := fun x y => by simp [cellXY, q]
    have HW := Lib.hid HW0
    have HH := Lib.hid HH0
    have CV := Lib.hid CV0
    clear HW0 HH0 CV0
    have Q := Lib.hid q
    clear q
    rw [HW.out, HH.out]
    go_enter Try.func18, Try.ntmps18
    go_wp2_with fail
    refine (quarters_c k _).mono ?_
    rw [Q.out]
    rintro e w1 ⟨rfl, rfl⟩
    go_wp2_with fail
    go_loopw [12, 13] (fun v i wr => ∃ y : Nat, y ≤ h ∧ i = .int .i64 y ∧ Own .i64 3 w1.heap.size wr v (firstv m h k (y * m)) ∧ Kept w1 wr) (fun _ i _ => h - (intOf i).toNat)
    case atStart => exact ⟨0, Nat.zero_le _, rfl, by rw [Nat.zero_mul]; exact Own.nil _ _ _ _, kept_refl _⟩
    case round =>
      obtain ⟨y, hy, rfl, hown, hk⟩ := hrel
      by_cases hlt : y < h
      · go_wp2_with fail
        go_loopw [12, 14] (fun v i wr => ∃ x : Nat, x ≤ m ∧ i = .int .i64 x ∧ Own .i64 3 w1.heap.size wr v (firstv m h k (y * m + x)) ∧ Kept w1 wr) (fun _ i _ => m - (intOf i).toNat)
        case atStart => exact ⟨0, Nat.zero_le _, rfl, hown, hk⟩
        case round =>
          clear hown hk
          obtain ⟨x, hx, rfl, hown, hk⟩ := hrel
          by_cases hlx : x < m
          · go_wp2_with fail
            refine (quarters_c k _).mono ?_
            rw [Q.out]
            rintro e w2 ⟨rfl, rfl⟩
            have hown2 : World.ownsRow _ _ _ _ _ _ _ := hown
            have hlen : (firstv m h k (y * m + x)).length = y * m + x := mk_length _ _
            rw [hlen] at hown2
            have hbase := hk.size
            have hm1 : ((h : Int) - 1 - y) * m ≤ 4096 := (mul_bd64 _ _ (by omega) (by omega) (by omega) (by omega)).2
            have hm0 : 0 ≤ ((h : Int) - 1 - y) * m := (mul_bd64 _ _ (by omega) (by omega) (by omega) (by omega)).1
            have hNle : y * m + x < 8192 := by have := Nat.mul_le_mul (show y ≤ 64 by omega) (show m ≤ 64 by omega); omega
            clear hown hlen
            go_wp2_with (at_builtin; refine wpList_append_own _ rfl _ _ 37 rfl w1.heap.size 3 i1 (.int .i64 0) 1 8 Try.underlying37 hif1 hy0 hy1 hy2 rfl (by decide) _ _ _ rfl (hown2.alloc _) ⟨w2.heap.size, 0, none⟩ 1 1 [.int .i64 (((h : Int) - 1 - y) * m + m - 1 - x)] rfl rfl ?c1 ?c2 ?c3 ?c4 ?c5 ?_)
            case c1 =>
              intro q u hq
              match q, hq with
              | 0, hq => simp at hq; subst hq; simp [Addr.add]
            case c2 => intro u hu; simp at hu; subst hu; rfl
            case c3 => unfold maxLen; omega
            case c4 => omega
            case c5 => simp; omega
            · intro v' w5 hown' hgrow _
              have hv : (((h : Int) - 1 - y) * m + m - 1 - x) = ((cellAt m h k (y * m + x) : Nat) : Int) := by
                obtain ⟨d1, d2⟩ := divmod (a := y) hlx
                unfold cellAt
                rw [HW.out, d1, d2, CV.out]
                rw [Int.natCast_add, Int.natCast_mul, show ((h - 1 - y : Nat) : Int) = (h : Int) - 1 - y by omega]; omega
              rw [hv] at hown'
              have R : Own .i64 3 w1.heap.size w5 v' (firstv m h k (y * m + x + 1)) := Own.appended (f := fun p => ((cellAt m h k p : Nat) : Int)) hown'
              have K := kept_grown (kept_alloc hk _) (hown2.alloc _) (Nat.le_refl _) hgrow
              clear hown' hgrow hown2 hv
              go_wp2_with fail
              exact ⟨⟨x + 1, by omega, by go_num, R, K⟩, by simp [intOf]; omega⟩
          · have hxe := Lib.hid (show x = m by omega)
            clear hx
            go_wp2_with fail
            have hxe := hxe.out
            have e : y * m + x = (y + 1) * m := by rw [Nat.add_mul, Nat.one_mul]; omega
            exact ⟨⟨y + 1, by omega, by go_num, by rw [← e]; exact hown, hk⟩, by simp [intOf]; omega⟩
      · have hye : y = h := by omega
        have hs := size_eq m h k
        rw [HW.out, HH.out] at hs
        have HS := Lib.hid hs
        have HE := Lib.hid hye
        clear hs hye
        go_wp2_with fail
        have e : y * m = m * h := by rw [HE.out, Nat.mul_comm]
        rw [e] at hown
        exact bodyPost_ret (v := .tuple #[u12, .int .i64 (m : Int), .int .i64 (h : Int), .bool true]) (by simp [results, Try.results18, go_sem]) rfl ⟨_, rfl, hown, hk⟩
  · have HW0 : wideN m h k = h := by simp [wideN, q]
    have HH0 : highN m h k = m := by simp [highN, q]
    have CV0 : ∀ x y, cellXY m h k x y = x * m + (m - 1 - y) := fun x y => by simp [cellXY, q]
    have HW := Lib.hid HW0
    have HH := Lib.hid HH0
    have CV := Lib.hid CV0
    clear HW0 HH0 CV0
    have Q := Lib.hid q
    clear q
    rw [HW.out, HH.out]
    go_enter Try.func18, Try.ntmps18
    go_wp2_with fail
    refine (quarters_c k _).mono ?_
    rw [Q.out]
    rintro e w1 ⟨rfl, rfl⟩
    go_wp2_with fail
    go_loopw [12, 13] (fun v i wr => ∃ y : Nat, y ≤ m ∧ i = .int .i64 y ∧ Own .i64 3 w1.heap.size wr v (firstv m h k (y * h)) ∧ Kept w1 wr) (fun _ i _ => m - (intOf i).toNat)
    case atStart => exact ⟨0, Nat.zero_le _, rfl, by rw [Nat.zero_mul]; exact Own.nil _ _ _ _, kept_refl _⟩
    case round =>
      obtain ⟨y, hy, rfl, hown, hk⟩ := hrel
      by_cases hlt : y < m
      · go_wp2_with fail
        go_loopw [12, 14] (fun v i wr => ∃ x : Nat, x ≤ h ∧ i = .int .i64 x ∧ Own .i64 3 w1.heap.size wr v (firstv m h k (y * h + x)) ∧ Kept w1 wr) (fun _ i _ => h - (intOf i).toNat)
        case atStart => exact ⟨0, Nat.zero_le _, rfl, hown, hk⟩
        case round =>
          clear hown hk
          obtain ⟨x, hx, rfl, hown, hk⟩ := hrel
          by_cases hlx : x < h
          · go_wp2_with fail
            refine (quarters_c k _).mono ?_
            rw [Q.out]
            rintro e w2 ⟨rfl, rfl⟩
            have hown2 : World.ownsRow _ _ _ _ _ _ _ := hown
            have hlen : (firstv m h k (y * h + x)).length = y * h + x := mk_length _ _
            rw [hlen] at hown2
            have hbase := hk.size
            have hm1 : (x : Int) * m ≤ 4096 := (mul_bd64 _ _ (by omega) (by omega) (by omega) (by omega)).2
            have hm0 : 0 ≤ (x : Int) * m := (mul_bd64 _ _ (by omega) (by omega) (by omega) (by omega)).1
            have hNle : y * h + x < 8192 := by have := Nat.mul_le_mul (show y ≤ 64 by omega) (show h ≤ 64 by omega); omega
            clear hown hlen
            go_wp2_with (at_builtin; refine wpList_append_own _ rfl _ _ 37 rfl w1.heap.size 3 i1 (.int .i64 0) 1 8 Try.underlying37 hif1 hy0 hy1 hy2 rfl (by decide) _ _ _ rfl (hown2.alloc _) ⟨w2.heap.size, 0, none⟩ 1 1 [.int .i64 ((x : Int) * m + m - 1 - y)] rfl rfl ?c1 ?c2 ?c3 ?c4 ?c5 ?_)
            case c1 =>
              intro q u hq
              match q, hq with
              | 0, hq => simp at hq; subst hq; simp [Addr.add]
            case c2 => intro u hu; simp at hu; subst hu; rfl
            case c3 => unfold maxLen; omega
            case c4 => omega
            case c5 => simp; omega
            · intro v' w5 hown' hgrow _
              have hv : ((x : Int) * m + m - 1 - y) = ((cellAt m h k (y * h + x) : Nat) : Int) := by
                obtain ⟨d1, d2⟩ := divmod (a := y) hlx
                unfold cellAt
                rw [HW.out, d1, d2, CV.out]
                rw [Int.natCast_add, Int.natCast_mul]; omega
              rw [hv] at hown'
              have R : Own .i64 3 w1.heap.size w5 v' (firstv m h k (y * h + x + 1)) := Own.appended (f := fun p => ((cellAt m h k p : Nat) : Int)) hown'
              have K := kept_grown (kept_alloc hk _) (hown2.alloc _) (Nat.le_refl _) hgrow
              clear hown' hgrow hown2 hv
              go_wp2_with fail
              exact ⟨⟨x + 1, by omega, by go_num, R, K⟩, by simp [intOf]; omega⟩
          · have hxe := Lib.hid (show x = h by omega)
            clear hx
            go_wp2_with fail
            have hxe := hxe.out
            have e : y * h + x = (y + 1) * h := by rw [Nat.add_mul, Nat.one_mul]; omega
            exact ⟨⟨y + 1, by omega, by go_num, by rw [← e]; exact hown, hk⟩, by simp [intOf]; omega⟩
      · have hye : y = m := by omega
        have hs := size_eq m h k
        rw [HW.out, HH.out] at hs
        have HS := Lib.hid hs
        have HE := Lib.hid hye
        clear hs hye
        go_wp2_with fail
        have e : y * h = m * h := by rw [HE.out, Nat.mul_comm]
        rw [e] at hown
        exact bodyPost_ret (v := .tuple #[u12, .int .i64 (h : Int), .int .i64 (m : Int), .bool true]) (by simp [results, Try.results18, go_sem]) rfl ⟨_, rfl, hown, hk⟩
end Go.Proofs.Ytkifafdbobhlpaa
