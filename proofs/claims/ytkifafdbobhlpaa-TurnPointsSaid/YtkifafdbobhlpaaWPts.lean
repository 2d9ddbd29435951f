/-
  Layer 21 (turn): points turned, and moved.
-/
import Derived.Test.YtkifafdbobhlpaaWRBox
namespace Go.Proofs.Ytkifafdbobhlpaa
open Go.RowKit BG
attribute [local go_sem ↓] Go.wp_at_zero Go.wp_at_succ
set_option linter.unusedVariables false

/-- n points, one behind the other. -/
def flat (n : Nat) (f g : Nat → Int) : List Int := (List.range n).flatMap fun j => [f j, g j]
theorem flat_succ (n : Nat) (f g : Nat → Int) : flat (n + 1) f g = flat n f g ++ [f n, g n] := by simp [flat, List.range_succ]
theorem flat_length (n : Nat) (f g : Nat → Int) : (flat n f g).length = 2 * n := by
  induction n with
  | zero => rfl
  | succ n ih => rw [flat_succ, List.length_append, ih]; simp; omega
theorem flat_at (f g : Nat → Int) : ∀ (n j : Nat), j < n → X (flat n f g) j = f j ∧ Y (flat n f g) j = g j := by
  intro n
  induction n with
  | zero => intro j h; omega
  | succ n ih =>
    intro j h
    rw [flat_succ]
    have hl := flat_length n f g
    unfold X Y nth
    rw [List.getD_eq_getElem?_getD, List.getD_eq_getElem?_getD]
    rcases Nat.lt_or_ge j n with h' | h'
    · rw [List.getElem?_append_left (by omega), List.getElem?_append_left (by omega)]
      have := ih j h'
      unfold X Y nth at this
      rwa [List.getD_eq_getElem?_getD, List.getD_eq_getElem?_getD] at this
    · obtain rfl : j = n := by omega
      rw [List.getElem?_append_right (by omega), List.getElem?_append_right (by omega), show j * 2 - (flat j f g).length = 0 by omega, show j * 2 + 1 - (flat j f g).length = 1 by omega]
      simp
/-- Points that the call has made. -/
def Own2 (base : Nat) (w : World) (v : Value) (n : Nat) (xs : List Int) : Prop := w.ownsRow base 35 2 v n (xs.map (Value.int .i64))
theorem Own2.nil (base : Nat) (w : World) : Own2 base w (.slice none 0 0) 0 [] := ⟨by simp, .inl ⟨rfl, rfl⟩⟩
theorem Own2.kept {base n : Nat} {w w1 : World} {v : Value} {xs : List Int} (h : Own2 base w v n xs) (hk : Kept w w1) : Own2 base w1 v n xs :=
  World.ownsRow.kept h (⟨hk.os, hk.tape, hk.output, hk.size, fun i hi _ => hk.block i hi⟩ : w.grownBy w1 none) (by cases v.ownBlock <;> simp)
theorem Own2.rd {base n : Nat} {w : World} {v : Value} {xs : List Int} (h : Own2 base w v n xs) (hb : n ≤ 1000000000000000) : ∃ A c, v = .slice A n c ∧ xs.length = 2 * n ∧ Rd .i64 w A xs := by
  have hl : xs.length = 2 * n := by have := h.1; rw [List.length_map] at this; omega
  rcases h.2 with ⟨rfl, rfl⟩ | ⟨g, cap, cur, rfl, _, _, h1, h2, _⟩
  · exact ⟨none, 0, rfl, hl, by omega, fun hp => by omega⟩
  · refine ⟨_, cap, rfl, hl, by omega, fun _ => ⟨_, rfl, fun j hj => World.ownsRow.cells h (g := g) rfl j _ ?_⟩⟩
    rw [List.getElem?_map, List.getElem?_eq_getElem hj, Option.map_some, nth_lt hj]
theorem Own2.pos {base n : Nat} {w : World} {v : Value} {xs : List Int} (h : Own2 base w v n xs) (hn : 0 < n) (hb : n ≤ 1000000000000000) : ∃ g c, v = .slice (some ⟨g, 0, none⟩) n c ∧ xs.length = 2 * n ∧ Rd .i64 w (some ⟨g, 0, none⟩) xs := by
  obtain ⟨A, c, rfl, hl, hr⟩ := h.rd hb
  rcases h.2 with ⟨h', _⟩ | ⟨g, cap, cur, h', _⟩
  · simp at h'; omega
  · simp only [Value.slice.injEq] at h'
    obtain ⟨rfl, _, rfl⟩ := h'
    exact ⟨g, c, rfl, hl, hr⟩
theorem Own2.cell {base n g c : Nat} {w : World} {xs : List Int} (h : Own2 base w (.slice (some ⟨g, 0, none⟩) n c) n xs) (hl : xs.length = 2 * n) {j : Nat} (hj : j < n) : w.cell? ⟨g, j * 2, none⟩ = some (.int .i64 (X xs j)) ∧ w.cell? ⟨g, j * 2 + 1, none⟩ = some (.int .i64 (Y xs j)) := by
  have h1 := World.ownsRow.cellAt h (j * 2) (by omega)
  have h2 := World.ownsRow.cellAt h (j * 2 + 1) (by omega)
  rw [List.getElem?_map, List.getElem?_eq_getElem (by omega), Option.map_some, ← nth_lt (by omega)] at h1 h2
  exact ⟨h1, h2⟩
theorem flat_congr {f g f' g' : Nat → Int} : ∀ {n : Nat}, (∀ q, q < n → f q = f' q ∧ g q = g' q) → flat n f g = flat n f' g' := by
  intro n
  induction n with
  | zero => intro _; rfl
  | succ n ih =>
    intro h
    have h1 := h n (by omega)
    rw [flat_succ, flat_succ, ih fun q hq => h q (by omega), h1.1, h1.2]
theorem flat_set (f g : Nat → Int) (u v : Int) : ∀ (n j : Nat), j < n → ((flat n f g).set (j * 2) u).set (j * 2 + 1) v = flat n (fun q => if q = j then u else f q) (fun q => if q = j then v else g q) := by
  intro n
  induction n with
  | zero => intro j h; omega
  | succ n ih =>
    intro j h
    have hl := flat_length n f g
    rw [flat_succ, flat_succ]
    rcases Nat.lt_or_ge j n with h' | h'
    · rw [List.set_append_left _ _ (by omega), List.set_append_left _ _ (by rw [List.length_set]; omega), ih j h', if_neg (by omega), if_neg (by omega)]
    · obtain rfl : j = n := by omega
      rw [List.set_append_right _ _ (by omega), List.set_append_right _ _ (by omega), show j * 2 - (flat j f g).length = 0 by omega, show j * 2 + 1 - (flat j f g).length = 1 by omega]
      simp only [if_true]
      congr 1
      refine flat_congr fun q hq => ?_
      rw [if_neg (by omega), if_neg (by omega)]
      exact ⟨rfl, rfl⟩
theorem Own2.store {w0 : World} {base n g c : Nat} {w : World} {f k : Nat → Int} (h : Own2 base w (.slice (some ⟨g, 0, none⟩) n c) n (flat n f k)) (hk : Kept w0 w) (hb : w0.heap.size ≤ base) {j : Nat} (hj : j < n) (u v : Int) :
    Own2 base ((w.setCell ⟨g, j * 2, none⟩ (.int .i64 u)).setCell ⟨g, j * 2 + 1, none⟩ (.int .i64 v)) (.slice (some ⟨g, 0, none⟩) n c) n (flat n (fun q => if q = j then u else f q) (fun q => if q = j then v else k q)) ∧ Kept w0 ((w.setCell ⟨g, j * 2, none⟩ (.int .i64 u)).setCell ⟨g, j * 2 + 1, none⟩ (.int .i64 v)) := by
  obtain ⟨h1, g1⟩ := World.ownsRow.stored h (j * 2) (.int .i64 u)
  obtain ⟨h2, g2⟩ := World.ownsRow.stored h1 (j * 2 + 1) (.int .i64 v)
  refine ⟨?_, kept_grown (kept_grown hk h hb g1) h1 hb g2⟩
  unfold Own2
  rw [← flat_set f k u v n j hj, List.map_set, List.map_set]
  exact h2
theorem lo_bd {f : Nat → Int} {n : Nat} {a b : Int} (hn : 0 < n) (h : ∀ q, q < n → a ≤ f q ∧ f q ≤ b) : ∀ m, m ≤ n → a ≤ lo f m ∧ lo f m ≤ b := by
  intro m
  induction m with
  | zero => intro _; exact h 0 hn
  | succ m ih =>
    intro hm
    have h1 := ih (by omega)
    have h2 := h m (by omega)
    show a ≤ min (lo f m) (f m) ∧ min (lo f m) (f m) ≤ b
    omega
theorem csub_at (a b c d re im : Nat) (h : cSumBits .sub .f64 a b c d = some (re, im)) (w : World) : (binOp .sub 44 (.complex .f64 a b) (.complex .f64 c d)).run Try.prog w = .ok (.complex .f64 re im) w :=
  run_complex_sum w .sub (.inr rfl) _ .f64 a b c d re im h
theorem info_p2 : (Try.prog.info? 35).map (fun i => (i.zero, i.size, i.bytes)) = some (some (.agg #[.int .i64 0, .int .i64 0]), 2, 16) := by kernel_rfl
def rotv (xs : List Int) (k : Int) (n : Nat) : List Int := flat n (fun j => rx (X xs j) (Y xs j) k) (fun j => ry (X xs j) (Y xs j) k)
def ptsv (xs : List Int) (k : Int) (n : Nat) : List Int := if boxOk xs n then flat n (fun j => rx (X xs j) (Y xs j) k - lo (X (rotv xs k n)) n) (fun j => ry (X xs j) (Y xs j) k - lo (Y (rotv xs k n)) n) else []
theorem points_c (A : Option Addr) (cap : Nat) (xs : List Int) (n : Nat) (hl : xs.length = 2 * n) (k : Int) (k1 : -9223372036854775808 ≤ k) (k2 : k ≤ 9223372036854775807) (hreach : n * 16 ≤ 140737488351232) (w : World) (hr : Rd .i64 w A xs) :
    Calls Try.prog 14 #[.slice A n cap, .int .i64 k] w fun e w' => ∃ v, e = .returned (.tuple #[v, .bool (boxOk xs n)]) ∧ Own2 w.heap.size w' v (if boxOk xs n then n else 0) (ptsv xs k n) ∧ Kept w w' := by
  have hm := hr.1
  have HB := box_c A cap xs n hl w hr
  cases hok : boxOk xs n
  · unfold Btuple at HB
    rw [hok] at HB
    simp only [onlyIf, Bool.false_eq_true, if_false] at HB
    have HO := Lib.hid hok
    clear hok
    go_enter Try.func14, Try.ntmps14
    go_wp2_with fail
    refine HB.mono ?_
    rintro e w1 ⟨rfl, hk1⟩
    go_wp2_with fail
    go_ret2
    exact ⟨_, rfl, by unfold ptsv; rw [HO.out]; exact Own2.nil _ _, kept_alloc hk1 _⟩
  · obtain ⟨i0, hi, hz0, hz1, hz2⟩ := info_parts info_p2
    unfold Btuple at HB
    rw [hok] at HB
    simp only [onlyIf, if_true] at HB
    obtain ⟨hn, hall⟩ : 0 < n ∧ ∀ j, j < n → win (X xs j) (Y xs j) = true := by simpa [boxOk] using hok
    have HALL := Lib.hid hall
    have HO := Lib.hid hok
    clear hall hok
    go_enter Try.func14, Try.ntmps14
    go_wp2_with fail
    refine HB.mono ?_
    rintro e w1 ⟨rfl, hk1⟩
    clear HB
    go_wp2_with fail
    go_loopw [8, 25] (fun v i wr => ∃ j : Nat, j ≤ n ∧ i = .int .i64 j ∧ Own2 w.heap.size wr v j (rotv xs k j) ∧ Kept w wr) (fun _ i _ => n - (intOf i).toNat)
    case atStart => exact ⟨0, Nat.zero_le _, rfl, Own2.nil _ _, kept_alloc hk1 _⟩
    case round =>
      obtain ⟨j, hj, rfl, hown, hk⟩ := hrel
      by_cases hlt : j < n
      · obtain ⟨ad, rfl, c0, c1⟩ := (hr.kept hk).point hl hlt
        obtain ⟨i1, i2⟩ := win_true (HALL.out j hlt)
        obtain ⟨re, im, hcm, r1, r2⟩ := turn_bits (X xs j) (Y xs j) k (inb_small i1) (inb_small i2)
        obtain ⟨b1, b2⟩ := rot_bd k (inb_true i1) (inb_true i2)
        have hcm := cmul_at _ _ _ _ _ _ hcm
        have C := corner_c re im _ _ r1 r2 (by omega) (by omega)
        unfold arr2 at C
        clear r1 r2 i1 i2 b1 b2
        go_wp2_with fail
        refine (point_c (X xs j) (Y xs j) _).mono ?_
        rintro e w2 ⟨rfl, hk2⟩
        go_wp2_with fail
        refine (power_c k k1 k2 _).mono ?_
        rintro e w3 ⟨rfl, hk3⟩
        go_wp2_with fail
        refine (C _).mono ?_
        rintro e w4 ⟨rfl, hk4⟩
        have K := kept_trans (kept_alloc (kept_refl wr) _) (kept_trans hk2 (kept_trans hk3 hk4))
        have hown2 := hown.kept K
        have hk' := kept_trans hk K
        clear hk2 hk3 hk4 c0 c1 hown hcm C
        have hbase : w.heap.size ≤ w4.heap.size := hk'.size
        unfold Own2 at hown2
        go_wp2_with (at_builtin; refine wpList_append_own _ rfl _ _ 26 rfl w.heap.size 35 i0 (.agg #[.int .i64 0, .int .i64 0]) 2 16 Try.underlying26 hi hz0 hz1 hz2 rfl (by decide) _ _ _ rfl (World.ownsRow.alloc hown2 _) ⟨w4.heap.size, 0, none⟩ 1 1 [.int .i64 (rx (X xs j) (Y xs j) k), .int .i64 (ry (X xs j) (Y xs j) k)] rfl rfl ?c1 ?c2 ?c3 ?c4 ?c5 ?_)
        case c1 =>
          intro q u hq
          match q, hq with
          | 0, hq => simp at hq; subst hq; simp [Addr.add]
          | 1, hq => simp at hq; subst hq; simp [Addr.add]
        case c2 => intro u hu; simp at hu; rcases hu with rfl | rfl <;> rfl
        case c3 => unfold maxLen; omega
        case c4 => omega
        case c5 => simp; omega
        · intro v' w5 hown' hgrow _
          have R : Own2 w.heap.size w5 v' (j + 1) (rotv xs k (j + 1)) := by
            unfold Own2 rotv
            rw [flat_succ, List.map_append]
            exact hown'
          have K5 := kept_grown (kept_alloc hk' _) (World.ownsRow.alloc hown2 _) (Nat.le_refl _) hgrow
          clear hown' hgrow hown2
          go_wp2_with fail
          exact ⟨⟨j + 1, by omega, by go_num, R, K5⟩, by simp [intOf]; omega⟩
      · obtain rfl : j = n := by omega
        obtain ⟨g, c', rfl, hl', hr'⟩ := hown.pos hn (by omega)
        have HB := box_c (some ⟨g, 0, none⟩) c' (rotv xs k j) j hl' wr hr'
        have hrot : ∀ q, q < j → (-1048576 ≤ rx (X xs q) (Y xs q) k ∧ rx (X xs q) (Y xs q) k ≤ 1048576) ∧ (-1048576 ≤ ry (X xs q) (Y xs q) k ∧ ry (X xs q) (Y xs q) k ≤ 1048576) := by
          intro q hq
          obtain ⟨i1, i2⟩ := win_true (HALL.out q hq)
          exact rot_bd k (inb_true i1) (inb_true i2)
        have hat : ∀ q, q < j → X (rotv xs k j) q = rx (X xs q) (Y xs q) k ∧ Y (rotv xs k j) q = ry (X xs q) (Y xs q) k := fun q hq => flat_at (fun j => rx (X xs j) (Y xs j) k) (fun j => ry (X xs j) (Y xs j) k) j q hq
        have hok' : boxOk (rotv xs k j) j = true := by
          simp only [boxOk, decide_eq_true_eq]
          refine ⟨hn, fun q hq => ?_⟩
          rw [(hat q hq).1, (hat q hq).2]
          have b := hrot q hq
          simp [win, inb, b.1, b.2]
        have l1 : -1048576 ≤ lo (X (rotv xs k j)) j ∧ lo (X (rotv xs k j)) j ≤ 1048576 := lo_bd hn (fun q hq => by rw [(hat q hq).1]; exact (hrot q hq).1) j (Nat.le_refl _)
        have l2 : -1048576 ≤ lo (Y (rotv xs k j)) j ∧ lo (Y (rotv xs k j)) j ≤ 1048576 := lo_bd hn (fun q hq => by rw [(hat q hq).2]; exact (hrot q hq).2) j (Nat.le_refl _)
        have HROT := Lib.hid hrot
        clear hrot hat
        unfold Btuple at HB
        rw [hok'] at HB
        simp only [onlyIf, if_true] at HB
        clear hok'
        generalize hlx : lo (X (rotv xs k j)) j = lx at *
        generalize hly : lo (Y (rotv xs k j)) j = ly at *
        have HX := Lib.hid hlx
        have HY := Lib.hid hly
        clear hlx hly
        go_wp2_with fail
        refine HB.mono ?_
        rintro e w2 ⟨rfl, hk2⟩
        clear HB
        go_wp2_with fail
        refine (point_c lx ly _).mono ?_
        rintro e w3 ⟨rfl, hk3⟩
        have K3 := kept_trans hk2 (kept_trans (kept_alloc (kept_refl _) _) hk3)
        replace hown := hown.kept K3
        replace hk := kept_trans hk K3
        clear hk2 hk3 K3 hr' hl'
        go_wp2_with fail
        go_loopw [52] (fun i wx => ∃ q : Nat, q ≤ j ∧ i = .int .i64 q ∧ Own2 w.heap.size wx (.slice (some ⟨g, 0, none⟩) j c') j (flat j (fun p => if p < q then rx (X xs p) (Y xs p) k - lx else rx (X xs p) (Y xs p) k) (fun p => if p < q then ry (X xs p) (Y xs p) k - ly else ry (X xs p) (Y xs p) k)) ∧ Kept w wx) (fun i _ => j - (intOf i).toNat)
        case atStart => exact ⟨0, Nat.zero_le _, rfl, by simpa [rotv] using hown, hk⟩
        case round =>
          clear hown hk
          obtain ⟨q, hq, rfl, hown, hk⟩ := hrel
          by_cases hlt : q < j
          · obtain ⟨d0, d1⟩ := hown.cell (flat_length _ _ _) hlt
            obtain ⟨e1, e2⟩ := flat_at (fun p => if p < q then rx (X xs p) (Y xs p) k - lx else rx (X xs p) (Y xs p) k) (fun p => if p < q then ry (X xs p) (Y xs p) k - ly else ry (X xs p) (Y xs p) k) j q hlt
            rw [e1] at d0
            rw [e2] at d1
            simp only [Nat.lt_irrefl, if_false] at d0 d1
            clear e1 e2
            obtain ⟨b1, b2⟩ := HROT.out q hlt
            generalize hA : rx (X xs q) (Y xs q) k = x at *
            generalize hB : ry (X xs q) (Y xs q) k = y at *
            have HA := Lib.hid hA
            have HB := Lib.hid hB
            obtain ⟨re, im, hcs, r1, r2⟩ := rep_csub (rep_int x (by omega)) (rep_int y (by omega)) (rep_int lx (by omega)) (rep_int ly (by omega)) (by omega) (by omega)
            have hcs := csub_at _ _ _ _ _ _ hcs
            have C := corner_c re im _ _ r1 r2 (by omega) (by omega)
            unfold arr2 at C
            clear r1 r2 b1 b2 hA hB
            have ea : (⟨g, 0, none⟩ : Addr).add (q * 2) = ⟨g, q * 2, none⟩ := by unfold Addr.add; split <;> simp_all
            go_wp2_with fail
            refine (point_c x y _).mono ?_
            rintro e w4 ⟨rfl, hk4⟩
            go_wp2_with fail
            refine (C _).mono ?_
            rintro e w5 ⟨rfl, hk5⟩
            have K5 := kept_trans (kept_alloc (kept_refl wr) _) (kept_trans hk4 hk5)
            replace d0 := kept_cell K5 d0
            replace d1 := kept_cell K5 d1
            replace hown := hown.kept K5
            replace hk := kept_trans hk K5
            have f0 := World.ownsRow.frozenAt hown (q * 2)
            have f1 := World.ownsRow.frozenAt hown (q * 2 + 1)
            clear hk4 hk5 K5 hcs C
            go_wp2_with fail
            obtain ⟨R, K⟩ := hown.store hk (Nat.le_refl _) hlt (x - lx) (y - ly)
            have e : flat j (fun p => if p = q then x - lx else if p < q then rx (X xs p) (Y xs p) k - lx else rx (X xs p) (Y xs p) k) (fun p => if p = q then y - ly else if p < q then ry (X xs p) (Y xs p) k - ly else ry (X xs p) (Y xs p) k) = flat j (fun p => if p < q + 1 then rx (X xs p) (Y xs p) k - lx else rx (X xs p) (Y xs p) k) (fun p => if p < q + 1 then ry (X xs p) (Y xs p) k - ly else ry (X xs p) (Y xs p) k) := by
              refine flat_congr fun p hp => ?_
              by_cases h : p = q
              · subst h
                rw [if_pos rfl, if_pos rfl, if_pos (by omega), if_pos (by omega), HA.out, HB.out]
                exact ⟨rfl, rfl⟩
              · rw [if_neg h, if_neg h]
                by_cases h' : p < q
                · rw [if_pos h', if_pos h', if_pos (by omega), if_pos (by omega)]; exact ⟨rfl, rfl⟩
                · rw [if_neg h', if_neg h', if_neg (by omega), if_neg (by omega)]; exact ⟨rfl, rfl⟩
            rw [e] at R
            exact ⟨⟨q + 1, by omega, by go_num, R, K⟩, by simp [intOf]; omega⟩
          · obtain rfl : q = j := by omega
            have e : ptsv xs k q = flat q (fun p => if p < q then rx (X xs p) (Y xs p) k - lx else rx (X xs p) (Y xs p) k) (fun p => if p < q then ry (X xs p) (Y xs p) k - ly else ry (X xs p) (Y xs p) k) := by
              unfold ptsv
              rw [HO.out, if_pos rfl, HX.out, HY.out]
              refine flat_congr fun p hp => ?_
              rw [if_pos hp, if_pos hp]
              exact ⟨rfl, rfl⟩
            have E := Lib.hid e
            clear e
            go_wp2_with fail
            go_ret2
            exact ⟨_, rfl, by rw [E.out]; simpa using hown, hk⟩
end Go.Proofs.Ytkifafdbobhlpaa
