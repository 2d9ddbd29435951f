/-
  Texts of one claim, joined: WBlk3, ConvQ, WConv3, WConv6, WConv7, WBlk4, BlkP.
-/
import Derived.Lib.AppendZerosOnto
import Derived.ArgAppend
import Derived.Deep.RegionLaw
import Derived.Deep.AppendLies
import Derived.Laws.AppendOwnNone
import Derived.Laws.CopyOwn
import Derived.Test.YtdejablhpljdfaaGreatC09
import Derived.Test.YtdejablhpljdfaaGreatC01
namespace Go.Proofs.YtdejablhpljdfaaGreat
open Go.RowKit BG
attribute [local go_sem ↓] Go.wp_at_zero Go.wp_at_succ run_min_at run_max_at
set_option linter.unusedVariables false
theorem countv_bd (m n size : Int) : 0 ≤ countv m n size ∧ countv m n size ≤ 8796093022208 := by
  unfold countv
  split
  · rename_i h
    have hz := szb_bd h.2
    obtain ⟨hm1, hm2⟩ : 1 ≤ m ∧ m ≤ min n 1099511627776 := of_decide_eq_true h.1
    have h1 : 0 ≤ (min n 1099511627776 - m) / (size - m + 1) := Int.ediv_nonneg (by omega) (by omega)
    have h2 : (min n 1099511627776 - m) / (size - m + 1) ≤ min n 1099511627776 - m := Int.ediv_le_self _ (by omega)
    omega
  · omega
def costv (m n : Int) (l : Nat) : Int := countv m n ((2 ^ l : Nat) : Int) * ((2 ^ l : Nat) : Int) * ((l : Int) + 1)
def fitT (m n : Int) : Nat → Int × Int
  | 0 => (0, 0)
  | l + 1 => if 0 < costv m n l ∧ ((fitT m n l).1 = 0 ∨ costv m n l < (fitT m n l).2) then (((2 ^ l : Nat) : Int), costv m n l) else fitT m n l
def fitv (m n : Int) : Int := (fitT m n 13).1
theorem pow_bd {l : Nat} (h : l ≤ 12) : 1 ≤ ((2 ^ l : Nat) : Int) ∧ ((2 ^ l : Nat) : Int) ≤ 4096 := by
  have h1 := Nat.two_pow_pos l
  have h2 : 2 ^ l ≤ 2 ^ 12 := Nat.pow_le_pow_right (by decide) h
  omega
theorem costv_bd (m n : Int) {l : Nat} (h : l ≤ 12) : 0 ≤ countv m n ((2 ^ l : Nat) : Int) * ((2 ^ l : Nat) : Int) ∧ countv m n ((2 ^ l : Nat) : Int) * ((2 ^ l : Nat) : Int) ≤ 36028797018963968 ∧ 0 ≤ costv m n l ∧ costv m n l ≤ 468374361246531584 := by
  have h1 := countv_bd m n ((2 ^ l : Nat) : Int)
  have h2 := pow_bd h
  have h3 : countv m n ((2 ^ l : Nat) : Int) * ((2 ^ l : Nat) : Int) ≤ 8796093022208 * 4096 := Int.mul_le_mul h1.2 h2.2 (by omega) (by decide)
  have h4 : 0 ≤ countv m n ((2 ^ l : Nat) : Int) * ((2 ^ l : Nat) : Int) := Int.mul_nonneg h1.1 (by omega)
  have h5 : costv m n l ≤ 36028797018963968 * 13 := Int.mul_le_mul (by omega) (by omega) (by omega) (by decide)
  have h6 : 0 ≤ costv m n l := Int.mul_nonneg h4 (by omega)
  exact ⟨h4, by omega, h6, by omega⟩
theorem fitT_bd (m n : Int) : ∀ l, l ≤ 13 → 0 ≤ (fitT m n l).1 ∧ (fitT m n l).1 ≤ 4096 ∧ 0 ≤ (fitT m n l).2 ∧ (fitT m n l).2 ≤ 468374361246531584 := by
  intro l
  induction l with
  | zero => intro _; exact ⟨Int.le_refl 0, (by decide : (0 : Int) ≤ 4096), Int.le_refl 0, (by decide : (0 : Int) ≤ 468374361246531584)⟩
  | succ l ih =>
    intro h
    have a := ih (by omega)
    have b := costv_bd m n (l := l) (by omega)
    have c := pow_bd (l := l) (by omega)
    show 0 ≤ (if _ then _ else _ : Int × Int).1 ∧ (if _ then _ else _ : Int × Int).1 ≤ 4096 ∧ 0 ≤ (if _ then _ else _ : Int × Int).2 ∧ (if _ then _ else _ : Int × Int).2 ≤ _
    split
    · exact ⟨(by omega : 0 ≤ ((2 ^ l : Nat) : Int)), c.2, b.2.2.1, b.2.2.2⟩
    · exact a
theorem fitT_yes {m n : Int} {l : Nat} (h : 0 < costv m n l) (h2 : (fitT m n l).1 = 0 ∨ costv m n l < (fitT m n l).2) : fitT m n (l + 1) = (((2 ^ l : Nat) : Int), costv m n l) := by
  show (if _ then _ else _) = _
  rw [if_pos ⟨h, h2⟩]
theorem fitT_no {m n : Int} {l : Nat} (h : ¬ (0 < costv m n l ∧ ((fitT m n l).1 = 0 ∨ costv m n l < (fitT m n l).2))) : fitT m n (l + 1) = fitT m n l := by
  show (if _ then _ else _) = _
  rw [if_neg h]
set_option maxRecDepth 100000 in
set_option maxHeartbeats 4000000 in
theorem fit_c (m n : Int) (w : World) : Calls Tryz.prog 182 #[.int .i64 m, .int .i64 n] w (Ret (.int .i64 (fitv m n)) w) := by
  unfold fitv
  go_enter Tryz.func182, Tryz.ntmps182
  go_wp2_with fail
  go_loopw [5, 6, 10] (fun b s iv wr => ∃ l : Nat, l ≤ 13 ∧ iv = .int .i64 l ∧ b = .int .i64 (fitT m n l).1 ∧ s = .int .i64 (fitT m n l).2 ∧ Kept w wr) (fun _ _ iv _ => 13 - (intOf iv).toNat)
  case atStart => exact ⟨0, Nat.zero_le _, rfl, rfl, rfl, kept_refl _⟩
  case round =>
    obtain ⟨l, hl, rfl, rfl, rfl, hk⟩ := hrel
    by_cases hlt : l < 13
    · have hs := shl_at l (by omega)
      have HZ := Lib.hid (show ((2 ^ (l + 1) : Nat) : Int) = 2 * ((2 ^ l : Nat) : Int) by rw [Nat.pow_succ, Int.natCast_mul]; omega)
      have cb := countv_bd m n ((2 ^ l : Nat) : Int)
      have pb := pow_bd (l := l) (by omega)
      have qb := costv_bd m n (l := l) (by omega)
      have fb := fitT_bd m n l (by omega)
      have C := fun w => count_c m n ((2 ^ l : Nat) : Int) w
      have hyes := fun h h2 => fitT_yes (m := m) (n := n) (l := l) h h2
      have hno := fun h => fitT_no (m := m) (n := n) (l := l) h
      have hq : costv m n l = countv m n ((2 ^ l : Nat) : Int) * ((2 ^ l : Nat) : Int) * ((l : Int) + 1) := rfl
      have C := C wr
      generalize hF : fitT m n l = F at *
      obtain ⟨b, s⟩ := F
      dsimp only at *
      clear hF
      generalize costv m n l = Q at *
      generalize hN : ((2 ^ l : Nat) : Int) = N at *
      have HN := Lib.hid hN
      clear hN
      generalize countv m n N = c at *
      generalize hP : c * N = P at *
      have hPQ := hq.symm
      clear hq
      by_cases h1 : 0 < Q
      · by_cases h2 : b = 0
        · have HT := Lib.hid (hyes h1 (.inl h2))
          subst h2
          clear hyes hno
          go_wp2_with fail
          refine C.mono ?_
          rintro e w1 ⟨rfl, hk1⟩
          clear C
          go_wp2_with fail
          exact ⟨⟨l + 1, by omega, by go_num, by rw [HT.out], by rw [HT.out], kept_trans hk hk1⟩, by simp [intOf]; omega⟩
        · have h2' : (b == 0) = false := by simpa using h2
          by_cases h3 : Q < s
          · have HT := Lib.hid (hyes h1 (.inr h3))
            clear hyes hno
            go_wp2_with fail
            refine C.mono ?_
            rintro e w1 ⟨rfl, hk1⟩
            clear C
            go_wp2_with fail
            exact ⟨⟨l + 1, by omega, by go_num, by rw [HT.out], by rw [HT.out], kept_trans hk hk1⟩, by simp [intOf]; omega⟩
          · have HT := Lib.hid (hno (fun h => h.2.elim h2 h3))
            have h3' : decide (Q < s) = false := decide_eq_false h3
            clear hyes hno
            go_wp2_with fail
            refine C.mono ?_
            rintro e w1 ⟨rfl, hk1⟩
            clear C
            go_wp2_with fail
            exact ⟨⟨l + 1, by omega, by go_num, by rw [HT.out], by rw [HT.out], kept_trans hk hk1⟩, by simp [intOf]; omega⟩
      · have HT := Lib.hid (hno (fun h => h1 h.1))
        obtain rfl : Q = 0 := by omega
        clear hyes hno
        go_wp2_with fail
        refine C.mono ?_
        rintro e w1 ⟨rfl, hk1⟩
        clear C
        go_wp2_with fail
        exact ⟨⟨l + 1, by omega, by go_num, by rw [HT.out], by rw [HT.out], kept_trans hk hk1⟩, by simp [intOf]; omega⟩
    · obtain rfl : l = 13 := by omega
      generalize fitT m n 13 = F at *
      go_wp2_with fail
      go_ret
      exact ⟨rfl, hk⟩
end Go.Proofs.YtdejablhpljdfaaGreat
namespace Go.Proofs.YtdejablhpljdfaaGreat
open Go.RowKit BG
set_option linter.unusedVariables false
theorem addr_two (a : Addr) (m n : Nat) : (a.add m).add n = a.add (m + n) := by
  unfold Addr.add
  by_cases h : m = 0
  · subst h; simp
  · by_cases h' : n = 0
    · subst h'; simp [h]
    · simp [h, h']; omega
theorem Rd.sub {k : IntKind} {w : World} {ad : Addr} {xs ys : List Int} (h : Rd k w (some ad) xs) (d : Nat) (hl : d + ys.length ≤ xs.length) (hy : ∀ j, j < ys.length → nth ys j = nth xs (d + j)) : Rd k w (some (ad.add d)) ys := by
  refine ⟨by have := h.1; omega, fun hp => ⟨_, rfl, fun j hj => ?_⟩⟩
  obtain ⟨ad', e, hc⟩ := h.2 (by omega)
  cases e
  rw [addr_two, hc (d + j) (by omega), hy j hj]
theorem Rd.pre {k : IntKind} {w : World} {A : Option Addr} {xs ys : List Int} (h : Rd k w A xs) (hl : ys.length ≤ xs.length) (hy : ∀ j, j < ys.length → nth ys j = nth xs j) : Rd k w A ys := by
  refine ⟨by have := h.1; omega, fun hp => ?_⟩
  obtain ⟨ad, e, hc⟩ := h.2 (by omega)
  exact ⟨ad, e, fun j hj => by rw [hc j (by omega), hy j hj]⟩
theorem amiss_pow {k : Int} (h : pr k ≠ 0) {l : Nat} (hl : l ≤ 12) : amiss k ((2 ^ l : Nat) : Int) = 0 := by
  unfold amiss; rw [if_neg h, (log_pow l hl).1]; rfl
end Go.Proofs.YtdejablhpljdfaaGreat
namespace Go.Proofs.YtdejablhpljdfaaGreat
open Go.RowKit BG
attribute [local go_sem ↓] Go.wp_at_zero Go.wp_at_succ run_min_at run_max_at
set_option linter.unusedVariables false
theorem beq_zero (n : Nat) (h : n ≠ 0) : ((n : Int) == 0) = false := by rw [beq_eq_false_iff_ne]; omega
end Go.Proofs.YtdejablhpljdfaaGreat
namespace Go.Proofs.YtdejablhpljdfaaGreat
open Go.RowKit BG
attribute [local go_sem ↓] Go.wp_at_zero Go.wp_at_succ
set_option linter.unusedVariables false
theorem rd_cells {w : World} {k : IntKind} {ad : Addr} {xs : List Int} (h : Rd k w (some ad) xs) : ∀ (j : Nat) u, (xs.map (Value.int k))[j]? = some u → w.cell? (ad.add j) = some u := by
  intro j u hj
  rw [List.getElem?_map, Option.map_eq_some_iff] at hj
  obtain ⟨z, hz, rfl⟩ := hj
  have hlt := (List.getElem?_eq_some_iff.1 hz).1
  obtain ⟨ad', e, hc⟩ := h.2 (by omega)
  cases e
  rw [hc j hlt, nth_lt hlt, (List.getElem?_eq_some_iff.1 hz).2]
theorem cells_one (k : IntKind) (xs : List Int) : ∀ u ∈ xs.map (Value.int k), u.oneCell' = true := by
  intro u hu
  rw [List.mem_map] at hu
  obtain ⟨z, _, rfl⟩ := hu
  rfl
theorem wide_is (xs : List Int) {size : Nat} (h : xs.length ≤ size) : xs.map (Value.int .u64) ++ List.replicate (size - xs.length) (Value.int .u64 0) = (widev xs size).map (Value.int .u64) := by
  refine List.ext_getElem (by simp [widev_length]; omega) fun j h1 h2 => ?_
  rw [List.getElem_map, ← nth_lt (by simpa using h2)]
  have hj : j < size := by simpa [widev_length] using h2
  unfold widev
  rw [nth_mk hj]
  by_cases hlt : j < xs.length
  · rw [List.getElem_append_left (by simpa using hlt), if_pos hlt, List.getElem_map, nth_lt hlt]
  · rw [List.getElem_append_right (by simpa using hlt), if_neg hlt, List.getElem_replicate]
end Go.Proofs.YtdejablhpljdfaaGreat
namespace Go.Proofs.YtdejablhpljdfaaGreat
open Go.RowKit BG
attribute [local go_sem ↓] Go.wp_at_zero Go.wp_at_succ
set_option linter.unusedVariables false
theorem own_set {w : World} {base n size : Nat} {e : TypeId} {v : Value} {xs : List Value} (h : w.ownsRow base e size v n xs) {p : Addr} (hp : p.block < base) (u : Value) : (w.setCell p u).ownsRow base e size v n xs :=
  World.ownsRow.kept h (⟨rfl, rfl, rfl, by simp, fun i hi hne => Below.heap_setCell w p u i fun e => hne (by rw [e])⟩ : w.grownBy (w.setCell p u) (some p.block)) (by
    cases e : v.ownBlock with
    | none => exact .inl rfl
    | some g => exact .inr fun e2 => by cases e2; have := (World.ownsRow.lt h _ e).1; omega)
theorem Own.form {k : IntKind} {e : TypeId} {base : Nat} {w : World} {v : Value} {xs : List Int} (h : Own k e base w v xs) : ∃ A c, v = .slice A xs.length c := by
  obtain ⟨A, c, e, _⟩ := h.rd
  exact ⟨A, c, e⟩
end Go.Proofs.YtdejablhpljdfaaGreat
namespace Go.Proofs.YtdejablhpljdfaaGreat
open Go.RowKit BG
attribute [local go_sem ↓] Go.wp_at_zero Go.wp_at_succ
set_option linter.unusedVariables false
theorem own_full {w : World} {base g N : Nat} {e : TypeId} {xs : List Value} (h : w.ownsRow base e 1 (.slice (some ⟨g, 0, none⟩) N N) N xs) : w.heap[g]? = some (.cells xs.toArray e (0, 0)) ∧ base ≤ g ∧ N ≤ maxLen ∧ xs.length = N := by
  have hl := h.1
  rcases h.2 with ⟨h0, _⟩ | ⟨g', cap, cur, he, hb, hg, h1, h2, h3, h4⟩
  · cases h0
  · cases he
    rw [List.take_of_length_le (by simp; omega)] at h4
    refine ⟨?_, hb, h2, by omega⟩
    rw [hg, ← h4]
theorem full_own {w : World} {base g N : Nat} {e : TypeId} {xs : List Value} (hg : w.heap[g]? = some (.cells xs.toArray e (0, 0))) (hb : base ≤ g) (hm : N ≤ maxLen) (hl : xs.length = N) : w.ownsRow base e 1 (.slice (some ⟨g, 0, none⟩) N N) N xs :=
  ⟨by omega, .inr ⟨g, N, xs.toArray, rfl, hb, hg, Nat.le_refl _, hm, by simp [hl], by simp [List.take_of_length_le, hl]⟩⟩
theorem splice_wide (xs : List Int) {size : Nat} (h : xs.length ≤ size) : splice (List.replicate size (Value.int .u64 0)) 0 (xs.map (Value.int .u64)) = (widev xs size).map (Value.int .u64) := by
  rw [← wide_is xs h]
  unfold splice
  rw [List.take_zero, List.nil_append, List.drop_replicate, List.length_map, Nat.zero_add]
set_option maxHeartbeats 4000000 in
theorem wide_c (A : Option Addr) (ca S : Nat) (xs : List Int) (hl : xs.length ≤ S) (hS : S ≤ 4096) (w : World) (hr : Rd .u64 w A xs) :
    Calls Tryz.prog 102 #[.slice A xs.length ca, .int .i64 (S : Nat)] w fun e w' => ∃ v, e = .returned v ∧ Own .u64 108 w.heap.size w' v (widev xs S) ∧ Kept w w' := by
  obtain ⟨i1, hif1, hy0, hy1, hy2⟩ := info_parts info_u64
  have hwl := widev_length xs S
  have hsp := splice_wide xs hl
  have hif : (Tryz.prog.info? 108).map (·.size) = some 1 := by rw [hif1]; simp [hy1]
  go_enter Tryz.func102, Tryz.ntmps102
  go_wp2_with (refine wpList_make_full _ rfl (.tmp 6) (.tmp 6) 123 rfl w.heap.size 108 i1 (.int .u64 0) 1 Tryz.underlying123 hif1 hy0 hy1 .i64 .i64 _ _ S rfl rfl (by simp) (by simp) ?b2 ?b3 ?b4 ?_)
  case b2 => rw [hy2]; omega
  case b3 => unfold maxLen; omega
  case b4 => exact Nat.le_refl _
  intro w4 hown4 hgrow
  have K4 : Kept w w4 := (kept_refl w).grown hgrow (Nat.le_refl _) (fun k h => by cases h)
  rw [toList_madeCells_one] at hown4
  obtain ⟨hg, _, hm, _⟩ := own_full hown4
  have r4 := hr.kept K4
  clear hown4 hgrow
  generalize hgg : w.heap.size = g at *
  obtain ⟨X1, hX1⟩ : ∃ X1, X1 = xs.map (Value.int .u64) := ⟨_, rfl⟩
  have hX1l : X1.length = xs.length := by rw [hX1, List.length_map]
  have HX := Lib.hid hX1
  rw [← hX1] at hsp
  have HSP := Lib.hid hsp
  have h1 : ∀ v ∈ X1, v.oneCell' = true := by rw [hX1]; exact cells_one _ _
  have hpos : 0 < X1.length → ∃ ad, A = some ad ∧ ∀ j v, X1[j]? = some v → w4.cell? (ad.add j) = some v := by
    intro h
    obtain ⟨ad, rfl, _⟩ := r4.at_ (j := 0) (by omega)
    exact ⟨ad, rfl, by rw [hX1]; exact rd_cells r4⟩
  have HPOS := Lib.hid hpos
  have HG0 := Lib.hid hg
  clear hX1 hsp hpos hg
  go_wp2_with (refine wpList_copy_splice rfl (.tmp 8) (.tmp 9) 123 123 rfl 108 Tryz.underlying123 hif (some ⟨g, 0, none⟩) A S S xs.length ca (by rfl) (by rfl) g 0 (List.replicate S (Value.int .u64 0)) 108 HG0.out X1 ?c1 (fun h => ⟨rfl, HPOS.out h⟩) ?c2 h1 g w ?c3 (Nat.le_refl _) ?_)
  case c1 => rw [hX1l]; exact (Nat.min_eq_left hl).symm
  case c2 => rw [hX1l, List.length_replicate]; omega
  case c3 => rw [← hgg]; exact K4
  intro w5 HG hb5
  have K5 : Kept w w5 := by rw [← hgg] at hb5; exact hb5
  have O5 : Own .u64 108 g w5 (.slice (some ⟨g, 0, none⟩) S S) (widev xs S) := by
    unfold Own
    rw [hwl]
    refine full_own ?_ (Nat.le_refl _) hm (by rw [List.length_map, hwl])
    rw [← HSP.out]
    exact HG.out
  clear HG hb5 HPOS h1 HG0 r4 K4
  go_wp2_with fail
  go_ret
  exact ⟨_, rfl, by rw [hgg]; exact O5, K5⟩
def turnTo (xs : List Int) (S q i : Nat) : Int := if (S - i) % S < q then nth xs ((S - i) % S) else 0
def turnedv (xs : List Int) (S : Nat) : List Int := mk S (turnTo xs S xs.length)
theorem turnTo_zero (xs : List Int) (S n : Nat) : mk n (turnTo xs S 0) = mk n fun _ => 0 := mk_congr fun p _ => by unfold turnTo; rw [if_neg (by omega)]
theorem turn_back {S q : Nat} (hS : 0 < S) (h : q < S) : (S - (S - q) % S) % S = q ∧ (S - q) % S < S := by
  refine ⟨?_, Nat.mod_lt _ hS⟩
  by_cases h0 : q = 0
  · subst h0; rw [Nat.sub_zero, Nat.mod_self, Nat.sub_zero, Nat.mod_self]
  · rw [Nat.mod_eq_of_lt (show S - q < S by omega), show S - (S - q) = q by omega, Nat.mod_eq_of_lt h]
theorem turnTo_set {xs : List Int} {S q : Nat} (hS : 0 < S) (hq : q < S) : (mk S (turnTo xs S q)).set ((S - q) % S) (nth xs q) = mk S (turnTo xs S (q + 1)) := by
  obtain ⟨h1, h2⟩ := turn_back hS hq
  rw [mk_set _ h2]
  refine mk_congr fun p hp => ?_
  unfold turnTo
  by_cases h : p = (S - q) % S
  · rw [if_pos h, h, h1, if_pos (Nat.lt_succ_self _)]
  · rw [if_neg h]
    have hne : (S - p) % S ≠ q := by
      intro e
      apply h
      have := (turn_back hS hp).1
      rw [e] at this
      exact this.symm
    by_cases h3 : (S - p) % S < q
    · rw [if_pos h3, if_pos (by omega)]
    · rw [if_neg h3, if_neg (by omega)]
set_option maxHeartbeats 4000000 in
theorem turned_c (A : Option Addr) (ca S : Nat) (xs : List Int) (hl : xs.length ≤ S) (hS0 : 0 < S) (hS : S ≤ 4096) (w : World) (hr : Rd .u64 w A xs) :
    Calls Tryz.prog 100 #[.slice A xs.length ca, .int .i64 (S : Nat)] w fun e w' => ∃ v, e = .returned v ∧ Own .u64 108 w.heap.size w' v (turnedv xs S) ∧ Kept w w' := by
  obtain ⟨i1, hif1, hy0, hy1, hy2⟩ := info_parts info_u64
  have hz := turnTo_zero xs S S
  have hset := fun q (hq : q < S) => turnTo_set (xs := xs) hS0 hq
  have htv : mk S (turnTo xs S xs.length) = turnedv xs S := rfl
  have htl : ∀ q, (mk S (turnTo xs S q)).length = S := fun q => mk_length _ _
  have htl2 : (turnedv xs S).length = S := mk_length _ _
  have hsz : ((S : Int) == 0) = false := beq_zero _ (by omega)
  generalize hla : xs.length = m at *
  have HLA := Lib.hid hla
  clear hla
  go_enter Tryz.func100, Tryz.ntmps100
  go_wp2_with (refine wpList_make_full _ rfl (.tmp 8) (.tmp 8) 123 rfl w.heap.size 108 i1 (.int .u64 0) 1 Tryz.underlying123 hif1 hy0 hy1 .i64 .i64 _ _ S rfl rfl (by simp) (by simp) ?b2 ?b3 ?b4 ?_)
  case b2 => rw [hy2]; omega
  case b3 => unfold maxLen; omega
  case b4 => exact Nat.le_refl _
  intro w4 hown4 hgrow
  have K4 : Kept w w4 := (kept_refl w).grown hgrow (Nat.le_refl _) (fun k h => by cases h)
  rw [toList_madeCells_one] at hown4
  have hown5 : w4.ownsRow w.heap.size 108 1 (.slice (some ⟨w.heap.size, 0, none⟩) S S) S ((mk S (turnTo xs S 0)).map (Value.int .u64)) := by
    rw [hz, mk_zero']; exact hown4
  clear hown4 hgrow hz
  generalize hg' : w.heap.size = g at *
  go_wp2_with fail
  go_loopw [12] (fun iv wr => ∃ q : Nat, q ≤ m ∧ iv = .int .i64 q ∧ wr.ownsRow g 108 1 (.slice (some ⟨g, 0, none⟩) S S) S ((mk S (turnTo xs S q)).map (Value.int .u64)) ∧ Kept w wr) (fun iv _ => m - (intOf iv).toNat)
  case atStart => exact ⟨0, Nat.zero_le _, rfl, hown5, K4⟩
  case round =>
    clear hown5 K4
    obtain ⟨q, hq, rfl, hown, hk⟩ := hrel
    by_cases hlt : q < m
    · obtain ⟨ad, rfl, c0⟩ := (hr.kept hk).at_ (j := q) (by have := HLA.out; omega)
      have hSq := hset q (by omega)
      have hml := htl q
      have hdl : (S - q) % S < S := Nat.mod_lt _ hS0
      have d0 := World.ownsRow.cellAt hown ((S - q) % S) (by omega)
      rw [List.getElem?_map, List.getElem?_eq_getElem (by omega), Option.map_some] at d0
      have f0 := World.ownsRow.frozenAt hown ((S - q) % S)
      have S0 := World.ownsRow.stored hown ((S - q) % S) (.int .u64 (nth xs q))
      rw [← List.map_set, hSq] at S0
      have HSS := Lib.hid S0
      have hd : (S : Int) - (q : Int) = ((S - q : Nat) : Int) := by omega
      have hr : (((S - q : Nat) : Int)).tmod (S : Int) = (((S - q) % S : Nat) : Int) := by rw [Int.tmod_eq_emod_of_nonneg (by omega), Int.natCast_emod]
      have hsq : S - q ≤ 4096 := by omega
      clear hSq S0
      generalize (mk S (turnTo xs S q))[(S - q) % S]'(by omega) = old at *
      generalize nth xs q = x at *
      generalize (S - q) % S = d at *
      generalize S - q = sq at *
      have ea : (⟨g, 0, none⟩ : Addr).add d = ⟨g, d, none⟩ := by unfold Addr.add; split <;> simp_all
      clear hset htl hml htv
      go_wp2_with fail
      exact ⟨⟨q + 1, by omega, by go_num, HSS.out.1, kept_grown hk hown (by omega) HSS.out.2⟩, by simp [intOf]; omega⟩
    · obtain rfl : m = q := by omega
      rw [htv] at hown
      clear hset htl htv
      have O5 : Own .u64 108 g wr (.slice (some ⟨g, 0, none⟩) S S) (turnedv xs S) := by unfold Own; rw [htl2]; exact hown
      clear hown htl2
      go_wp2_with fail
      go_ret
      exact ⟨_, rfl, by rw [hg']; exact O5, hk⟩
end Go.Proofs.YtdejablhpljdfaaGreat
namespace Go.Proofs.YtdejablhpljdfaaGreat
open Go.RowKit BG
set_option linter.unusedVariables false
theorem sumTo_from {n m t : Nat} {f : Nat → Int} (h : t + m ≤ n) (h0 : ∀ i, i < n → ¬ (t ≤ i ∧ i < t + m) → f i = 0) : sumTo n f = sumTo m fun j => f (t + j) := by
  obtain ⟨d, rfl⟩ : ∃ d, n = t + m + d := ⟨n - (t + m), by omega⟩
  rw [sumTo_append, sumTo_append, sumTo_zero (n := t) fun i hi => h0 i (by omega) (by omega), sumTo_zero (n := d) fun i hi => h0 (t + m + i) (by omega) (by omega)]
  omega
theorem turn_inv {S i t : Nat} (hi : i < S) (ht : t < S) : (i + (t + S - i) % S) % S = t ∧ (t + S - i) % S < S ∧ (S - (t + S - i) % S) % S = (if t ≤ i then i - t else i + S - t) ∧ ∀ j, j < S → (i + j) % S = t → j = (t + S - i) % S := by
  have hS : 0 < S := by omega
  have e1 : (t + S - i) % S = if t < i then t + S - i else t - i := by
    split
    · exact Nat.mod_eq_of_lt (by omega)
    · rw [show t + S - i = (t - i) + S by omega, Nat.add_mod_right, Nat.mod_eq_of_lt (by omega)]
  refine ⟨?_, Nat.mod_lt _ hS, ?_, ?_⟩
  · rw [e1]
    split
    · rw [show i + (t + S - i) = t + S by omega, Nat.add_mod_right, Nat.mod_eq_of_lt ht]
    · rw [show i + (t - i) = t by omega, Nat.mod_eq_of_lt ht]
  · rw [e1]
    by_cases h : t < i
    · rw [if_pos h, if_pos (by omega), show S - (t + S - i) = i - t by omega, Nat.mod_eq_of_lt (by omega)]
    · rw [if_neg h]
      by_cases h2 : t = i
      · subst h2
        rw [if_pos (Nat.le_refl _), Nat.sub_self, Nat.sub_zero, Nat.mod_self]
      · rw [if_neg (by omega), Nat.mod_eq_of_lt (by omega)]
        omega
  · intro j hj he
    rw [e1]
    by_cases h : i + j < S
    · rw [Nat.mod_eq_of_lt h] at he
      rw [if_neg (by omega)]
      omega
    · rw [show i + j = (i + j - S) + S by omega, Nat.add_mod_right, Nat.mod_eq_of_lt (by omega)] at he
      rw [if_pos (by omega)]
      omega
theorem cyc_turn {S t : Nat} (a : Nat → Int) (ps : List Int) (hm0 : 0 < ps.length) (ht : t + ps.length ≤ S) : cyc S a (nth (turnedv ps S)) t = sumTo ps.length fun j => nth ps j * a (t + j) := by
  have htS : t < S := by omega
  unfold cyc
  have h1 : ∀ i, i < S → (sumTo S fun j => if (i + j) % S = t then a i * nth (turnedv ps S) j else 0) = if t ≤ i ∧ i < t + ps.length then a i * nth ps (i - t) else 0 := by
    intro i hi
    obtain ⟨e1, e2, e3, e4⟩ := turn_inv hi htS
    rw [sumTo_one ((t + S - i) % S) e2 _ fun j hj hne => if_neg fun he => hne (e4 j hj he), if_pos e1]
    unfold turnedv
    rw [nth_mk e2]
    unfold turnTo
    rw [e3]
    by_cases h : t ≤ i
    · rw [if_pos h]
      by_cases h2 : i < t + ps.length
      · rw [if_pos (show i - t < ps.length by omega), if_pos ⟨h, h2⟩]
      · rw [if_neg (show ¬ i - t < ps.length by omega), if_neg (by omega), Int.mul_zero]
    · rw [if_neg h, if_neg (show ¬ i + S - t < ps.length by omega), if_neg (by omega), Int.mul_zero]
  rw [sumTo_congr h1, sumTo_from ht fun i _ h => if_neg h]
  refine sumTo_congr fun j hj => ?_
  rw [if_pos (by omega), Nat.add_sub_cancel_left, Int.mul_comm]
def partv (ts : List Int) (at_ L : Nat) : List Int := mk L fun i => nth ts (at_ + i)
theorem blk_sums {S i at_ L : Nat} (ps ts : List Int) (hm0 : 0 < ps.length) (hi : i + ps.length ≤ S) (hL : i + ps.length ≤ L) (hLS : L ≤ S) : cyc S (nth (widev (partv ts at_ L) S)) (nth (turnedv ps S)) i = sl (nth ps) (nth ts) ps.length (at_ + i) := by
  rw [cyc_turn _ ps hm0 hi]
  unfold sl
  refine sumTo_congr fun j hj => ?_
  unfold widev partv
  rw [mk_length, nth_mk (show i + j < S by omega), if_pos (show i + j < L by omega), nth_mk (show i + j < L by omega), Nat.add_assoc]
theorem mk_append (a b : Nat) (f : Nat → Int) : mk a f ++ mk b (fun i => f (a + i)) = mk (a + b) f := by
  induction b with
  | zero => simp [mk]
  | succ b ih => rw [mk_succ, ← List.append_assoc, ih, ← Nat.add_assoc, mk_succ]
def manyv (sums each q : Nat) : Nat := min each (sums - q * each)
theorem flat_range {sums each : Nat} (f : Nat → Int) : ∀ k, (∀ q, q < k → q * each < sums) → ((List.range k).flatMap fun q => mk (manyv sums each q) fun i => f (q * each + i)) = mk (min sums (k * each)) f := by
  intro k
  induction k with
  | zero => intro _; simp [mk]
  | succ k ih =>
    intro h
    rw [List.range_succ, List.flatMap_append, ih fun q hq => h q (by omega)]
    have h1 := h k (Nat.lt_succ_self k)
    have h2 : (k + 1) * each = k * each + each := Nat.succ_mul k each
    rw [show min sums (k * each) = k * each by omega, show min sums ((k + 1) * each) = k * each + manyv sums each k by unfold manyv; omega, ← mk_append]
    simp
theorem blocks_all {sums each : Nat} (hs : 0 < sums) (he : 0 < each) : (∀ q, q < (sums - 1) / each + 1 → q * each < sums) ∧ sums ≤ ((sums - 1) / each + 1) * each := by
  have h1 := Nat.div_add_mod (sums - 1) each
  have h2 := Nat.mod_lt (sums - 1) he
  have h3 : ((sums - 1) / each + 1) * each = each * ((sums - 1) / each) + each := by rw [Nat.succ_mul, Nat.mul_comm]
  refine ⟨fun q hq => ?_, by omega⟩
  have h4 : q * each ≤ (sums - 1) / each * each := Nat.mul_le_mul_right _ (by omega)
  rw [Nat.mul_comm ((sums - 1) / each)] at h4
  omega
end Go.Proofs.YtdejablhpljdfaaGreat
