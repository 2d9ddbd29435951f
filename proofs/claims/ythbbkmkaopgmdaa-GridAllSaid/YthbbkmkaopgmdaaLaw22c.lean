/-
  Layer 22's statements: the walks of turns, all.
-/
import Derived.Test.YthbbkmkaopgmdaaLaw22
namespace Go.Proofs.Ythbbkmkaopgmdaa
open Go.RowKit BG
attribute [local go_sem ↓] Go.wp_at_zero Go.wp_at_succ
set_option linter.unusedVariables false

theorem flat3_length (F : Nat) (l : List (Nat × Nat)) : (flat3 F l).length = 3 * l.length := by
  unfold flat3
  induction l with
  | nil => rfl
  | cons a l ih => rw [List.flatMap_cons, List.length_append, ih, List.length_cons]; simp; omega
theorem allP_le (W V : Int) (xs : List Int) (n : Nat) (s : ByteArray) (size : Int) : (allP W V xs n s size).length ≤ 20000 := by
  unfold allP
  split
  · exact allT_le (fun k => findL_le _ _ _ _ _ _) 4
  · exact Nat.zero_le _
theorem own3_rd {base n : Nat} {w : World} {v : Value} {e : TypeId} {xs : List Int} (h : w.ownsRow base e 3 v n (xs.map (Value.int .i64))) (hl : xs.length = 3 * n) (hb : n ≤ 1000000000000000) : ∃ A c, v = .slice A n c ∧ n ≤ c ∧ Rd .i64 w A xs := by
  rcases h.2 with ⟨rfl, h0⟩ | ⟨g, cap, cur, e1, _, hg, hc, hm, hcur⟩
  · have h1 := h.1
    subst h0
    have hx : xs = [] := by
      rw [List.length_map, Nat.zero_mul] at h1
      exact List.length_eq_zero_iff.1 h1
    subst hx
    exact ⟨none, 0, rfl, Nat.le_refl _, Rd.nil _ _ _⟩
  · subst e1
    refine ⟨_, cap, rfl, hc, by omega, fun _ => ⟨_, rfl, fun j hj => World.ownsRow.cells h (g := g) rfl j _ ?_⟩⟩
    rw [List.getElem?_map, List.getElem?_eq_getElem hj, Option.map_some, nth_lt hj]
theorem Rd.trip {w : World} {A : Option Addr} {xs : List Int} {n j : Nat} (h : Rd .i64 w A xs) (hl : xs.length = 3 * n) (hj : j < n) : ∃ ad, A = some ad ∧ w.cell? (ad.add (j * 3)) = some (.int .i64 (nth xs (j * 3))) ∧ w.cell? ⟨(ad.add (j * 3)).block, (ad.add (j * 3)).off + 1, none⟩ = some (.int .i64 (nth xs (j * 3 + 1))) ∧ w.cell? ⟨(ad.add (j * 3)).block, (ad.add (j * 3)).off + 2, none⟩ = some (.int .i64 (nth xs (j * 3 + 2))) := by
  obtain ⟨ad, e, hc⟩ := h.2 (by omega)
  refine ⟨ad, e, hc _ (by omega), ?_, ?_⟩
  · rw [add_more ad (j * 3) (by decide : 0 < 1)]; exact hc _ (by omega)
  · rw [add_more ad (j * 3) (by decide : 0 < 2)]; exact hc _ (by omega)
set_option maxRecDepth 100000 in
set_option maxHeartbeats 8000000 in
theorem gridAll_w (W V : Int) (s : ByteArray) (A : Option Addr) (cap n : Nat) (xs : List Int) (size : Int) (hl : xs.length = 4 * n) (hn : n ≤ 9223372036854775807) (hs : s.size ≤ 9223372036854775807) (hu : U64 xs) (w : World) (hr : 4 * n ≤ 9223372036854775807 → Rd .u64 w A xs) : Calls Try.prog 6 #[fieldV W s, maskV V A n cap, .int .i64 size] w (Ret (.bool true) w) := by
  have ka := kept_alloc (kept_alloc (kept_refl w) (.cells #[.int .i64 W, .string s] 23)) (.cells #[.int .i64 V, .slice A n cap] 26)
  have hbf := blk_alloc (blk_new w (.cells #[.int .i64 W, .string s] 23)) (.cells #[.int .i64 V, .slice A n cap] 26)
  have hbm := blk_new1 w (.cells #[.int .i64 W, .string s] 23) (.cells #[.int .i64 V, .slice A n cap] 26)
  have FW := fun w1 => few22_c W V s A cap n hn hs w1
  by_cases hfew : s.size ≤ 400 ∧ n ≤ 400
  · have hr := hr (by omega)
    rw [show few22 s.size n = true by unfold few22; simp [hfew.1, hfew.2]] at FW
    go_enter Try.func6, Try.ntmps6
    go_wp2_with fail
    refine (FW _).mono ?_
    rintro e w1 ⟨rfl, hk1⟩
    replace hbf := blk_kept hk1 hbf
    replace hbm := blk_kept hk1 hbm
    have hk := kept_trans ka hk1
    have rd := hr.kept hk
    clear FW ka hk1 hr
    have f0 : w1.cell? ⟨w.heap.size, 0, none⟩ = some (.int .i64 W) := cell_at hbf 0 rfl
    have f1 : w1.cell? ⟨w.heap.size, 1, none⟩ = some (.string s) := cell_at hbf 1 rfl
    have m0 : w1.cell? ⟨w.heap.size + 1, 0, none⟩ = some (.int .i64 V) := cell_at hbm 0 rfl
    have m1 : w1.cell? ⟨w.heap.size + 1, 1, none⟩ = some (.slice A n cap) := cell_at hbm 1 rfl
    have S1 := fun w1 h => all_c W V A cap n xs s size hu hl (by omega) (by omega) w1 h
    have S2 := fun w1 h => rall_c W V A cap n xs s size hu hl (by omega) (by omega) w1 h
    have AV := fun w => alive22_c w
    unfold AnsA at S1 S2
    have hlen := flat3_length W.toNat (allP W V xs n s size)
    have hle := allP_le W V xs n s size
    generalize flat3 W.toNat (allP W V xs n s size) = fp at *
    generalize (allP W V xs n s size).length = m at *
    generalize allE W V xs n s size = fe at *
    have q1 : (fe != fe) = false := by simp
    have q2 : (fe == fe) = true := by simp
    go_wp2_with fail
    refine (S1 _ rd).mono ?_
    rintro e w2 ⟨v2, rfl, own2, hk2⟩
    replace hbf := blk_kept hk2 hbf
    replace hbm := blk_kept hk2 hbm
    replace hk := kept_trans hk hk2
    replace rd := rd.kept hk2
    clear f0 f1 m0 m1 S1
    have f0 : w2.cell? ⟨w.heap.size, 0, none⟩ = some (.int .i64 W) := cell_at hbf 0 rfl
    have f1 : w2.cell? ⟨w.heap.size, 1, none⟩ = some (.string s) := cell_at hbf 1 rfl
    have m0 : w2.cell? ⟨w.heap.size + 1, 0, none⟩ = some (.int .i64 V) := cell_at hbm 0 rfl
    have m1 : w2.cell? ⟨w.heap.size + 1, 1, none⟩ = some (.slice A n cap) := cell_at hbm 1 rfl
    go_wp2_with fail
    refine (S2 _ rd).mono ?_
    rintro e w3 ⟨v3, rfl, own3, hk3⟩
    replace own2 := rowKept own2 hk3
    replace hk := kept_trans hk hk3
    clear f0 f1 m0 m1 S2 hk3 hk2
    obtain ⟨A2, c2, rfl, hl2, rd2⟩ := own3_rd own2 hlen (by omega)
    obtain ⟨A3, c3, rfl, hl3, rd3⟩ := own3_rd own3 hlen (by omega)
    clear own2 own3
    go_wp2_with fail
    go_loopw [43] (fun i wr => ∃ j : Nat, j ≤ m ∧ i = .int .i64 j ∧ Kept w3 wr) (fun i _ => m - (intOf i).toNat)
    case atStart => exact ⟨0, Nat.zero_le _, rfl, kept_refl _⟩
    case round =>
      obtain ⟨j, hj, rfl, hkr⟩ := hrel
      by_cases hlt : j < m
      · obtain ⟨ad, hA2, x0, x1, x2⟩ := (rd2.kept hkr).trip hlen hlt
        obtain ⟨bd, hA3, y0, y1, y2⟩ := (rd3.kept hkr).trip hlen hlt
        subst hA2
        subst hA3
        have E := fun w => eq3_same (nth fp (j * 3)) (nth fp (j * 3 + 1)) (nth fp (j * 3 + 2)) w
        generalize nth fp (j * 3) = a at *
        generalize nth fp (j * 3 + 1) = b at *
        generalize nth fp (j * 3 + 2) = c at *
        go_wp2_with fail
        go_quiet (fail)
        go_wp2_with fail
        exact ⟨⟨j + 1, by omega, by go_num, kept_drewN hkr _⟩, by simp [intOf]; omega⟩
      · obtain rfl : j = m := by omega
        go_wp2_with fail
        refine (AV _).mono ?_
        rintro e w4 ⟨rfl, hk4⟩
        go_wp2_with fail
        go_ret
        exact ⟨rfl, kept_trans hk (kept_trans hkr hk4)⟩
  · rw [show few22 s.size n = false by unfold few22; simp; omega] at FW
    go_enter Try.func6, Try.ntmps6
    go_wp2_with fail
    refine (FW _).mono ?_
    rintro e w1 ⟨rfl, hk1⟩
    go_wp2_with fail
    refine (alive22_c _).mono ?_
    rintro e w2 ⟨rfl, hk2⟩
    go_wp2_with fail
    go_ret
    exact ⟨rfl, kept_trans ka (kept_trans hk1 hk2)⟩
end Go.Proofs.Ythbbkmkaopgmdaa
