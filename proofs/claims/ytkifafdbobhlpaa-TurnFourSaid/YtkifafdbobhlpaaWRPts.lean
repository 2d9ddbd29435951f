/-
  Layer 21 (turn): points turned, and moved.
-/
import Derived.Test.YtkifafdbobhlpaaWPts
import Derived.Test.YtkifafdbobhlpaaTail
namespace Go.Proofs.Ytkifafdbobhlpaa
open Go.RowKit BG
attribute [local go_sem ↓] Go.wp_at_zero Go.wp_at_succ
set_option linter.unusedVariables false

theorem rpoints_c (A : Option Addr) (cap : Nat) (xs : List Int) (n : Nat) (hl : xs.length = 2 * n) (k : Int) (k1 : -9223372036854775808 ≤ k) (k2 : k ≤ 9223372036854775807) (hreach : n * 16 ≤ 140737488351232) (w : World) (hr : Rd .i64 w A xs) :
    Calls Try.prog 15 #[.slice A n cap, .int .i64 k] w fun e w' => ∃ v, e = .returned (.tuple #[v, .bool (boxOk xs n)]) ∧ Own2 w.heap.size w' v (if boxOk xs n then n else 0) (ptsv xs k n) ∧ Kept w w' := by
  have hm := hr.1
  have HB := rbox_c A cap xs n hl w hr
  cases hok : boxOk xs n
  · unfold Btuple at HB
    rw [hok] at HB
    simp only [onlyIf, Bool.false_eq_true, if_false] at HB
    have HO := Lib.hid hok
    clear hok
    go_enter Try.func15, Try.ntmps15
    go_wp2_with fail
    refine HB.mono ?_
    rintro e w1 ⟨rfl, hk1⟩
    go_wp2_with fail
    go_ret2
    exact ⟨_, rfl, by unfold ptsv; rw [HO.out]; exact Own2.nil _ _, kept_alloc hk1 _⟩
  · obtain ⟨i0, hif, hz0, hz1, hz2⟩ := info_parts info_p2
    unfold Btuple at HB
    rw [hok] at HB
    simp only [onlyIf, if_true] at HB
    obtain ⟨hn, hall⟩ : 0 < n ∧ ∀ j, j < n → win (X xs j) (Y xs j) = true := by simpa [boxOk] using hok
    have HALL := Lib.hid hall
    have HO := Lib.hid hok
    clear hall hok
    go_enter Try.func15, Try.ntmps15
    go_wp2_with fail
    refine HB.mono ?_
    rintro e w1 ⟨rfl, hk1⟩
    clear HB
    go_wp2_with fail
    go_loopw [8, 9] (fun v i wr => ∃ j : Nat, j ≤ n ∧ i = .int .i64 j ∧ Own2 w.heap.size wr v j (rotv xs k j) ∧ Kept w wr) (fun _ i _ => n - (intOf i).toNat)
    case atStart => exact ⟨0, Nat.zero_le _, rfl, Own2.nil _ _, kept_alloc hk1 _⟩
    case round =>
      obtain ⟨j, hj, rfl, hown, hk⟩ := hrel
      by_cases hlt : j < n
      · obtain ⟨ad, rfl, c0, c1⟩ := (hr.kept hk).point hl hlt
        obtain ⟨i1, i2⟩ := win_true (HALL.out j hlt)
        have C := rturn_c (X xs j) (Y xs j) k (by have := inb_true i1; omega) (by have := inb_true i2; omega)
        unfold arr2 at C
        clear i1 i2
        go_wp2_with fail
        refine (C _).mono ?_
        rintro e w4 ⟨rfl, K⟩
        have hown2 := hown.kept K
        have hk' := kept_trans hk K
        clear c0 c1 hown C
        have hbase : w.heap.size ≤ w4.heap.size := hk'.size
        unfold Own2 at hown2
        go_wp2_with (at_builtin; refine wpList_append_own _ rfl _ _ 26 rfl w.heap.size 35 i0 (.agg #[.int .i64 0, .int .i64 0]) 2 16 Try.underlying26 hif hz0 hz1 hz2 rfl (by decide) _ _ _ rfl (World.ownsRow.alloc hown2 _) ⟨w4.heap.size, 0, none⟩ 1 1 [.int .i64 (rx (X xs j) (Y xs j) k), .int .i64 (ry (X xs j) (Y xs j) k)] rfl rfl ?c1 ?c2 ?c3 ?c4 ?c5 ?_)
        case c1 =>
          intro q u hq
          match q, hq with
          | 0, hq => simp at hq; subst hq; simp [Addr.add]
          | 1, hq => simp at hq; subst hq; simp [Addr.add]
        case c2 => intro u hu; simp at hu; rcases hu with rfl | rfl <;> rfl
        case c3 => unfold maxLen; omega
        case c4 => omega
        case c5 => simp; omega
        · intro v' w5 hown' hgrow _
          have R : Own2 w.heap.size w5 v' (j + 1) (rotv xs k (j + 1)) := by
            unfold Own2 rotv
            rw [flat_succ, List.map_append]
            exact hown'
          have K5 := kept_grown (kept_alloc hk' _) (World.ownsRow.alloc hown2 _) (Nat.le_refl _) hgrow
          clear hown' hgrow hown2
          go_wp2_with fail
          exact ⟨⟨j + 1, by omega, by go_num, R, K5⟩, by simp [intOf]; omega⟩
      · obtain rfl : j = n := by omega
        obtain ⟨g, c', rfl, hl', hr'⟩ := hown.pos hn (by omega)
        have HB := rbox_c (some ⟨g, 0, none⟩) c' (rotv xs k j) j hl' wr hr'
        have hrot : ∀ q, q < j → (-1048576 ≤ rx (X xs q) (Y xs q) k ∧ rx (X xs q) (Y xs q) k ≤ 1048576) ∧ (-1048576 ≤ ry (X xs q) (Y xs q) k ∧ ry (X xs q) (Y xs q) k ≤ 1048576) := by
          intro q hq
          obtain ⟨i1, i2⟩ := win_true (HALL.out q hq)
          exact rot_bd k (inb_true i1) (inb_true i2)
        have hat : ∀ q, q < j → X (rotv xs k j) q = rx (X xs q) (Y xs q) k ∧ Y (rotv xs k j) q = ry (X xs q) (Y xs q) k := fun q hq => flat_at (fun j => rx (X xs j) (Y xs j) k) (fun j => ry (X xs j) (Y xs j) k) j q hq
        have hok' : boxOk (rotv xs k j) j = true := by
          simp only [boxOk, decide_eq_true_eq]
          refine ⟨hn, fun q hq => ?_⟩
          rw [(hat q hq).1, (hat q hq).2]
          have b := hrot q hq
          simp [win, inb, b.1, b.2]
        have l1 : -1048576 ≤ lo (X (rotv xs k j)) j ∧ lo (X (rotv xs k j)) j ≤ 1048576 := lo_bd hn (fun q hq => by rw [(hat q hq).1]; exact (hrot q hq).1) j (Nat.le_refl _)
        have l2 : -1048576 ≤ lo (Y (rotv xs k j)) j ∧ lo (Y (rotv xs k j)) j ≤ 1048576 := lo_bd hn (fun q hq => by rw [(hat q hq).2]; exact (hrot q hq).2) j (Nat.le_refl _)
        have HROT := Lib.hid hrot
        clear hrot hat
        unfold Btuple at HB
        rw [hok'] at HB
        simp only [onlyIf, if_true] at HB
        clear hok'
        generalize hlx : lo (X (rotv xs k j)) j = lx at *
        generalize hly : lo (Y (rotv xs k j)) j = ly at *
        have HX := Lib.hid hlx
        have HY := Lib.hid hly
        clear hlx hly
        go_wp2_with fail
        refine HB.mono ?_
        rintro e w2 ⟨rfl, hk2⟩
        clear HB
        go_wp2_with fail
        have hgl := World.ownsRow.lt hown g rfl
        have hbb := blk_new w2 (.cells #[.int .i64 lx, .int .i64 ly, .int .i64 (hi (X (rotv xs k j)) j), .int .i64 (hi (Y (rotv xs k j)) j)] 27)
        have K3 := kept_trans hk2 (kept_alloc (kept_refl w2) (.cells #[.int .i64 lx, .int .i64 ly, .int .i64 (hi (X (rotv xs k j)) j), .int .i64 (hi (Y (rotv xs k j)) j)] 27))
        have hgne : w2.heap.size ≠ g := by have := hk2.size; omega
        replace hown := hown.kept K3
        replace hk := kept_trans hk K3
        generalize hi (X (rotv xs k j)) j = hx at *
        generalize hi (Y (rotv xs k j)) j = hy at *
        clear hk2 K3 hr' hl' hgl
        go_loopw [12] (fun i wx => ∃ q : Nat, q ≤ j ∧ i = .int .i64 q ∧ Own2 w.heap.size wx (.slice (some ⟨g, 0, none⟩) j c') j (flat j (fun p => if p < q then rx (X xs p) (Y xs p) k - lx else rx (X xs p) (Y xs p) k) (fun p => if p < q then ry (X xs p) (Y xs p) k - ly else ry (X xs p) (Y xs p) k)) ∧ wx.heap[w2.heap.size]? = some (.cells #[.int .i64 lx, .int .i64 ly, .int .i64 hx, .int .i64 hy] 27 (0, 0)) ∧ Kept w wx) (fun i _ => j - (intOf i).toNat)
        case atStart => exact ⟨0, Nat.zero_le _, rfl, by simpa [rotv] using hown, hbb, hk⟩
        case round =>
          clear hown hk hbb
          obtain ⟨q, hq, rfl, hown, hbb, hk⟩ := hrel
          by_cases hlt : q < j
          · obtain ⟨d0, d1⟩ := hown.cell (flat_length _ _ _) hlt
            obtain ⟨e1, e2⟩ := flat_at (fun p => if p < q then rx (X xs p) (Y xs p) k - lx else rx (X xs p) (Y xs p) k) (fun p => if p < q then ry (X xs p) (Y xs p) k - ly else ry (X xs p) (Y xs p) k) j q hlt
            rw [e1] at d0
            rw [e2] at d1
            simp only [Nat.lt_irrefl, if_false] at d0 d1
            clear e1 e2
            obtain ⟨b1, b2⟩ := HROT.out q hlt
            generalize hA : rx (X xs q) (Y xs q) k = x at *
            generalize hB : ry (X xs q) (Y xs q) k = y at *
            have HA := Lib.hid hA
            have HB := Lib.hid hB
            have v1 : _ = some (Value.int .i64 lx) := blk_cell hbb 0
            have v2 : _ = some (Value.int .i64 ly) := blk_cell hbb 1
            clear hA hB
            have ea : (⟨g, 0, none⟩ : Addr).add (q * 2) = ⟨g, q * 2, none⟩ := by unfold Addr.add; split <;> simp_all
            go_wp2_with fail
            have ks_d0 := fun s => kw_cell s d0
            have ks_d1 := fun s => kw_cell s d1
            have ks_v1 := fun s => kw_cell s v1
            have ks_v2 := fun s => kw_cell s v2
            refine wp_region_tail 20 (by kernel_rfl) (by kernel_rfl) ?_
            simp only [List.take_succ_cons, List.take_zero, List.drop_succ_cons, List.drop_zero]
            repeat (first | go_big_quiet_skip | (go_big_quiet_want; go_big_quiet_op; first | go_big_quiet_on | (apply Exists.intro; refine ⟨fun s => ?_, ?_⟩; (first | fail); go_big_quiet_on)))
            refine wpQuiet_nil ?_
            rintro w5 ⟨⟨_, hk5⟩, rfl⟩
            clear ks_d0
            clear ks_d1
            clear ks_v1
            clear ks_v2
            replace d0 := kept_cell hk5 d0
            replace d1 := kept_cell hk5 d1
            replace hown := hown.kept hk5
            replace hk := kept_trans hk hk5
            replace hbb := blk_kept hk5 hbb
            have f0 := World.ownsRow.frozenAt hown (q * 2)
            have f1 := World.ownsRow.frozenAt hown (q * 2 + 1)
            clear hk5 v1 v2
            go_wp2_with fail
            obtain ⟨R, K⟩ := hown.store hk (Nat.le_refl _) hlt (x - lx) (y - ly)
            have e : flat j (fun p => if p = q then x - lx else if p < q then rx (X xs p) (Y xs p) k - lx else rx (X xs p) (Y xs p) k) (fun p => if p = q then y - ly else if p < q then ry (X xs p) (Y xs p) k - ly else ry (X xs p) (Y xs p) k) = flat j (fun p => if p < q + 1 then rx (X xs p) (Y xs p) k - lx else rx (X xs p) (Y xs p) k) (fun p => if p < q + 1 then ry (X xs p) (Y xs p) k - ly else ry (X xs p) (Y xs p) k) := by
              refine flat_congr fun p hp => ?_
              by_cases h : p = q
              · subst h
                rw [if_pos rfl, if_pos rfl, if_pos (by omega), if_pos (by omega), HA.out, HB.out]
                exact ⟨rfl, rfl⟩
              · rw [if_neg h, if_neg h]
                by_cases h' : p < q
                · rw [if_pos h', if_pos h', if_pos (by omega), if_pos (by omega)]; exact ⟨rfl, rfl⟩
                · rw [if_neg h', if_neg h', if_neg (by omega), if_neg (by omega)]; exact ⟨rfl, rfl⟩
            rw [e] at R
            exact ⟨⟨q + 1, by omega, by go_num, R, blk_far (blk_far hbb (p := ⟨g, q * 2, none⟩) hgne _) (p := ⟨g, q * 2 + 1, none⟩) hgne _, K⟩, by simp [intOf]; omega⟩
          · obtain rfl : q = j := by omega
            have e : ptsv xs k q = flat q (fun p => if p < q then rx (X xs p) (Y xs p) k - lx else rx (X xs p) (Y xs p) k) (fun p => if p < q then ry (X xs p) (Y xs p) k - ly else ry (X xs p) (Y xs p) k) := by
              unfold ptsv
              rw [HO.out, if_pos rfl, HX.out, HY.out]
              refine flat_congr fun p hp => ?_
              rw [if_pos hp, if_pos hp]
              exact ⟨rfl, rfl⟩
            have E := Lib.hid e
            clear e
            go_wp2_with fail
            go_ret2
            exact ⟨_, rfl, by rw [E.out]; simpa using hown, hk⟩
end Go.Proofs.Ytkifafdbobhlpaa
