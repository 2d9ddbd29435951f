/-
  Layer 21's statements: the walks.
-/
import Derived.Test.YtkifafdbobhlpaaLaw21c
import Derived.Test.YtkifafdbobhlpaaTurnP
namespace Go.Proofs.Ytkifafdbobhlpaa
open Go.RowKit BG
attribute [local go_sem ↓] Go.wp_at_zero Go.wp_at_succ
set_option linter.unusedVariables false

theorem turnFour_no (a b : Int) (hok : fieldOk a b = false) (w : World) : Calls Try.prog 8 #[.int .i64 a, .int .i64 b] w (Ret (.bool true) w) := by
  have C1 := cells_no a b 1 hok
  rcases field_cases hok with c | ⟨c, d⟩ | ⟨c, d, e⟩ | ⟨c, d, e, f⟩
  · clear hok
    go_enter Try.func8, Try.ntmps8
    go_wp2_with fail
    refine wp_loop_rounds 1 ?_
    rw [rounds_succ]
    go_wp2_with fail
    refine (C1 _).mono ?_
    rintro e w1 ⟨rfl, hk1⟩
    go_wp2_with fail
    refine (alive21_c _).mono ?_
    rintro e w2 ⟨rfl, hk2⟩
    go_wp2_with fail
    go_ret
    exact ⟨rfl, kept_trans hk1 hk2⟩
  · have c' : ¬ a < 1 := by omega
    clear hok
    go_enter Try.func8, Try.ntmps8
    go_wp2_with fail
    refine wp_loop_rounds 1 ?_
    rw [rounds_succ]
    go_wp2_with fail
    refine (C1 _).mono ?_
    rintro e w1 ⟨rfl, hk1⟩
    go_wp2_with fail
    refine (alive21_c _).mono ?_
    rintro e w2 ⟨rfl, hk2⟩
    go_wp2_with fail
    go_ret
    exact ⟨rfl, kept_trans hk1 hk2⟩
  · have d' : ¬ 64 < a := by omega
    have c' : ¬ a < 1 := by omega
    clear hok
    go_enter Try.func8, Try.ntmps8
    go_wp2_with fail
    refine wp_loop_rounds 1 ?_
    rw [rounds_succ]
    go_wp2_with fail
    refine (C1 _).mono ?_
    rintro e w1 ⟨rfl, hk1⟩
    go_wp2_with fail
    refine (alive21_c _).mono ?_
    rintro e w2 ⟨rfl, hk2⟩
    go_wp2_with fail
    go_ret
    exact ⟨rfl, kept_trans hk1 hk2⟩
  · have d' : ¬ 64 < a := by omega
    have c' : ¬ a < 1 := by omega
    have e' : ¬ b < 1 := by omega
    clear hok
    go_enter Try.func8, Try.ntmps8
    go_wp2_with fail
    refine wp_loop_rounds 1 ?_
    rw [rounds_succ]
    go_wp2_with fail
    refine (C1 _).mono ?_
    rintro e w1 ⟨rfl, hk1⟩
    go_wp2_with fail
    refine (alive21_c _).mono ?_
    rintro e w2 ⟨rfl, hk2⟩
    go_wp2_with fail
    go_ret
    exact ⟨rfl, kept_trans hk1 hk2⟩
/-- What 'now' holds behind n quarters. -/
def nowv (w h n : Nat) : List Int := if n = 0 then [] else cellsv w h n
set_option maxRecDepth 100000 in
set_option maxHeartbeats 4000000 in
theorem turnFour_yes (m h : Nat) (hw : 0 < m) (hh : 0 < h) (hw2 : m ≤ 64) (hh2 : h ≤ 64) (w : World) : Calls Try.prog 8 #[.int .i64 m, .int .i64 h] w (Ret (.bool true) w) := by
  obtain ⟨i1, hif1, hy0, hy1, hy2⟩ := info_parts info_i64
  have hN0 : m * h ≤ 4096 := Nat.le_trans (Nat.mul_le_mul hw2 hh2) (by decide)
  have hmul : (m : Int) * (h : Int) = ((m * h : Nat) : Int) := (Int.natCast_mul _ _).symm
  have hnl : ∀ (n : Nat), 0 < n → (nowv m h n).length = m * h := fun n hn => by unfold nowv; rw [if_neg (by omega)]; exact mk_length _ _
  have hna : ∀ (n p : Nat), 0 < n → p < m * h → nth (nowv m h n) p = ((cellAt m h n p : Nat) : Int) := fun n p hn hp => by unfold nowv; rw [if_neg (by omega)]; exact nth_mk hp
  have hwide : ∀ n : Nat, 0 < wideN m h n ∧ 0 < highN m h n ∧ wideN m h n ≤ 64 ∧ highN m h n ≤ 64 ∧ wideN m h n * highN m h n = m * h := fun n => ⟨(wide_pos n hw hh).1, (wide_pos n hw hh).2, (wide_le n hw2 hh2).1, (wide_le n hw2 hh2).2, size_eq m h n⟩
  have hturn : ∀ n : Nat, n < 4 → wideN (wideN m h n) (highN m h n) 1 = wideN m h ((n + 1 : Nat) : Int) ∧ highN (wideN m h n) (highN m h n) 1 = highN m h ((n + 1 : Nat) : Int) := fun n hn => by
    have : n = 0 ∨ n = 1 ∨ n = 2 ∨ n = 3 := by omega
    rcases this with rfl | rfl | rfl | rfl <;> simp [wideN, highN]
  have hstep : ∀ (n p : Nat), n < 4 → p < m * h → cellAt (wideN m h n) (highN m h n) 1 p < m * h ∧ cellAt m h n (cellAt (wideN m h n) (highN m h n) 1 p) = cellAt m h ((n + 1 : Nat) : Int) p := fun n p hn hp => by
    obtain ⟨a1, a2, a3, a4, a5⟩ := hwide n
    have := cell_lt 1 a1 a2 (p := p) (by rw [a5]; exact hp)
    rw [a5] at this
    exact ⟨this, by rw [cell_step hw hh n hn hp, Int.natCast_add]; rfl⟩
  have hcv : ∀ n : Nat, (cellsv (wideN m h n) (highN m h n) 1).length = m * h ∧ ∀ p, p < m * h → nth (cellsv (wideN m h n) (highN m h n) 1) p = ((cellAt (wideN m h n) (highN m h n) 1 p : Nat) : Int) := fun n => by
    obtain ⟨a1, a2, a3, a4, a5⟩ := hwide n
    unfold cellsv
    rw [a5]
    exact ⟨mk_length _ _, fun p hp => nth_mk hp⟩
  have hend : wideN m h ((4 : Nat) : Int) = m ∧ highN m h ((4 : Nat) : Int) = h := by simp [wideN, highN]
  have hlast : ∀ p, cellAt m h ((4 : Nat) : Int) p = p := fun p => (cell_whole m h p).1
  have hfirst : ∀ p, cellAt m h ((0 : Nat) : Int) p = p := fun p => (cell_whole m h p).2
  have hnext : ∀ n : Nat, nowv m h (n + 1) = firstv m h ((n + 1 : Nat) : Int) (m * h) := fun n => by unfold nowv firstv cellsv; rw [if_neg (by omega)]
  have hstart : wideN m h ((0 : Nat) : Int) = m ∧ highN m h ((0 : Nat) : Int) = h := by simp [wideN, highN]
  generalize hNN : m * h = N at *
  clear hNN
  go_enter Try.func8, Try.ntmps8
  go_wp2_with fail
  go_loopw [5, 6, 7, 20] (fun v a b i wr => ∃ n : Nat, n ≤ 4 ∧ i = .int .i64 n ∧ a = .int .i64 (wideN m h n : Nat) ∧ b = .int .i64 (highN m h n : Nat) ∧ Own .i64 3 w.heap.size wr v (nowv m h n) ∧ Kept w wr) (fun _ _ _ i _ => 4 - (intOf i).toNat)
  case atStart => exact ⟨0, Nat.zero_le _, rfl, by rw [hstart.1], by rw [hstart.2], Own.nil _ _ _ _, kept_refl _⟩
  case round =>
    obtain ⟨n, hn, rfl, rfl, rfl, hown, hk⟩ := hrel
    by_cases hlt : n < 4
    · obtain ⟨a1, a2, a3, a4, a5⟩ := hwide n
      have C1 := cells_yes (wideN m h n) (highN m h n) 1 (by decide) (by decide) a1 a2 a3 a4 wr
      rw [(hturn n hlt).1, (hturn n hlt).2] at C1
      obtain ⟨hcl, hca⟩ := hcv n
      have hst := fun p => hstep n p hlt
      have hstl := hnext n
      clear hturn hwide hstep hcv hlast hend hstart hnext
      generalize cellsv (wideN m h n) (highN m h n) 1 = cs at *
      generalize wideN m h n = W at *
      generalize highN m h n = H at *
      rcases Nat.eq_zero_or_pos n with hz | hz
      · subst hz
        go_wp2_with fail
        refine C1.mono ?_
        rintro e w1 ⟨v1, rfl, hown1, hk1⟩
        clear C1 a1 a2 a3 a4 a5
        obtain ⟨A1, c1, rfl, _, _, r1⟩ := hown1.rd
        rw [hcl]
        replace hown := hown.kept hk1
        replace hk := kept_trans hk hk1
        clear hown1 hk1
        clear hown
        go_wp2_with fail
        go_loopw [13, 56] (fun v i wx => ∃ p : Nat, p ≤ N ∧ i = .int .i64 p ∧ Own .i64 3 w1.heap.size wx v (firstv m h ((0 + 1 : Nat) : Int) p) ∧ Kept w1 wx) (fun _ i _ => N - (intOf i).toNat)
        case atStart => exact ⟨0, Nat.zero_le _, rfl, Own.nil _ _ _ _, kept_refl _⟩
        case round =>
          obtain ⟨p, hp, rfl, hownx, hkx⟩ := hrel
          by_cases hlp : p < N
          · obtain ⟨ad, rfl, c0⟩ := (r1.kept hkx).at_ (j := p) (by omega)
            rw [hca p hlp] at c0
            obtain ⟨s1, s2⟩ := hst p hlp
            generalize cellAt W H 1 p = ci at *
            rw [hfirst] at s2
            have hlen : (firstv m h ((0 + 1 : Nat) : Int) p).length = p := mk_length _ _
            have hown2 : World.ownsRow _ _ _ _ _ _ _ := hownx
            rw [hlen] at hown2
            have hbase := hkx.size
            have S2 := Lib.hid s2
            clear hownx hlen s2
            go_wp2_with (at_builtin; refine wpList_append_own _ rfl _ _ 37 rfl w1.heap.size 3 i1 (.int .i64 0) 1 8 Try.underlying37 hif1 hy0 hy1 hy2 rfl (by decide) _ _ _ rfl (hown2.alloc _) ⟨wr.heap.size, 0, none⟩ 1 1 [.int .i64 (ci : Nat)] rfl rfl ?c1 ?c2 ?c3 ?c4 ?c5 ?_)
            case c1 =>
              intro q u hq
              match q, hq with
              | 0, hq => simp at hq; subst hq; simp [Addr.add]
            case c2 => intro u hu; simp at hu; subst hu; rfl
            case c3 => unfold maxLen; omega
            case c4 => omega
            case c5 => simp; omega
            · intro v' w5 hown' hgrow _
              rw [S2.out] at hown'
              have R : Own .i64 3 w1.heap.size w5 v' (firstv m h ((0 + 1 : Nat) : Int) (p + 1)) := Own.appended (f := fun p => ((cellAt m h ((0 + 1 : Nat) : Int) p : Nat) : Int)) hown'
              have K := kept_grown (kept_alloc hkx _) (hown2.alloc _) (Nat.le_refl _) hgrow
              clear hown' hgrow hown2
              go_wp2_with fail
              exact ⟨⟨p + 1, by omega, by go_num, R, K⟩, by simp [intOf]; omega⟩
          · obtain rfl : p = N := by omega
            go_wp2_with fail
            exact ⟨⟨0 + 1, by omega, by go_num, rfl, rfl, by rw [hstl]; exact hownx.less hk.size, kept_trans hk hkx⟩, by simp [intOf] <;> omega⟩
      · have hnz : 0 < (n : Int) := by omega
        go_wp2_with fail
        refine C1.mono ?_
        rintro e w1 ⟨v1, rfl, hown1, hk1⟩
        clear C1 a1 a2 a3 a4 a5
        obtain ⟨A1, c1, rfl, _, _, r1⟩ := hown1.rd
        rw [hcl]
        replace hown := hown.kept hk1
        replace hk := kept_trans hk hk1
        clear hown1 hk1
        obtain ⟨A5, c5, rfl, _, _, r5⟩ := hown.rd
        have hnn := hnl n hz
        rw [hnn]
        clear hown
        go_wp2_with fail
        go_loopw [13, 56] (fun v i wx => ∃ p : Nat, p ≤ N ∧ i = .int .i64 p ∧ Own .i64 3 w1.heap.size wx v (firstv m h ((n + 1 : Nat) : Int) p) ∧ Kept w1 wx) (fun _ i _ => N - (intOf i).toNat)
        case atStart => exact ⟨0, Nat.zero_le _, rfl, Own.nil _ _ _ _, kept_refl _⟩
        case round =>
          obtain ⟨p, hp, rfl, hownx, hkx⟩ := hrel
          by_cases hlp : p < N
          · obtain ⟨ad, rfl, c0⟩ := (r1.kept hkx).at_ (j := p) (by omega)
            rw [hca p hlp] at c0
            obtain ⟨s1, s2⟩ := hst p hlp
            generalize cellAt W H 1 p = ci at *
            obtain ⟨ad5, rfl, d0⟩ := (r5.kept hkx).at_ (j := ci) (by omega)
            rw [hna n ci hz s1] at d0
            have hlen : (firstv m h ((n + 1 : Nat) : Int) p).length = p := mk_length _ _
            have hown2 : World.ownsRow _ _ _ _ _ _ _ := hownx
            rw [hlen] at hown2
            have hbase := hkx.size
            have S2 := Lib.hid s2
            clear hownx hlen s2
            go_wp2_with (at_builtin; refine wpList_append_own _ rfl _ _ 37 rfl w1.heap.size 3 i1 (.int .i64 0) 1 8 Try.underlying37 hif1 hy0 hy1 hy2 rfl (by decide) _ _ _ rfl (hown2.alloc _) ⟨wr.heap.size, 0, none⟩ 1 1 [.int .i64 (cellAt m h n ci : Nat)] rfl rfl ?c1 ?c2 ?c3 ?c4 ?c5 ?_)
            case c1 =>
              intro q u hq
              match q, hq with
              | 0, hq => simp at hq; subst hq; simp [Addr.add]
            case c2 => intro u hu; simp at hu; subst hu; rfl
            case c3 => unfold maxLen; omega
            case c4 => omega
            case c5 => simp; omega
            · intro v' w5 hown' hgrow _
              rw [S2.out] at hown'
              have R : Own .i64 3 w1.heap.size w5 v' (firstv m h ((n + 1 : Nat) : Int) (p + 1)) := Own.appended (f := fun p => ((cellAt m h ((n + 1 : Nat) : Int) p : Nat) : Int)) hown'
              have K := kept_grown (kept_alloc hkx _) (hown2.alloc _) (Nat.le_refl _) hgrow
              clear hown' hgrow hown2
              go_wp2_with fail
              exact ⟨⟨p + 1, by omega, by go_num, R, K⟩, by simp [intOf]; omega⟩
          · obtain rfl : p = N := by omega
            go_wp2_with fail
            exact ⟨⟨n + 1, by omega, by go_num, rfl, rfl, by rw [hstl]; exact hownx.less hk.size, kept_trans hk hkx⟩, by simp [intOf] <;> omega⟩
    · obtain rfl : n = 4 := by omega
      rw [hend.1, hend.2]
      obtain ⟨A5, c5, rfl, _, _, r5⟩ := hown.rd
      have hnn := hnl 4 (by decide)
      have hn4 := fun p => hna 4 p (by decide)
      rw [hnn]
      clear hown hna hnl hwide hturn hstep hcv hend hfirst hnext hstart
      go_wp2_with fail
      go_loopw [95] (fun i wx => ∃ p : Nat, p ≤ N ∧ i = .int .i64 p ∧ Kept wr wx) (fun i _ => N - (intOf i).toNat)
      case atStart => exact ⟨0, Nat.zero_le _, rfl, kept_refl _⟩
      case round =>
        obtain ⟨p, hp, rfl, hkx⟩ := hrel
        by_cases hlp : p < N
        · obtain ⟨ad, rfl, c0⟩ := (r5.kept hkx).at_ (j := p) (by omega)
          rw [hn4 p hlp, hlast] at c0
          go_wp2_with fail
          exact ⟨⟨p + 1, by omega, by go_num, hkx⟩, by simp [intOf]; omega⟩
        · obtain rfl : p = N := by omega
          go_wp2_with fail
          refine (alive21_c _).mono ?_
          rintro e w5 ⟨rfl, hk5⟩
          go_wp2_with fail
          go_ret
          exact ⟨rfl, kept_trans hk (kept_trans hkx hk5)⟩
theorem turnFour_w (a b : Int) (w : World) : Calls Try.prog 8 #[.int .i64 a, .int .i64 b] w (Ret (.bool true) w) := by
  cases hok : fieldOk a b
  · exact turnFour_no a b hok w
  · have hf : 1 ≤ a ∧ a ≤ 64 ∧ 1 ≤ b ∧ b ≤ 64 := by simpa [fieldOk] using hok
    have := turnFour_yes a.toNat b.toNat (by omega) (by omega) (by omega) (by omega) w
    rwa [show ((a.toNat : Nat) : Int) = a by omega, show ((b.toNat : Nat) : Int) = b by omega] at this
end Go.Proofs.Ytkifafdbobhlpaa
