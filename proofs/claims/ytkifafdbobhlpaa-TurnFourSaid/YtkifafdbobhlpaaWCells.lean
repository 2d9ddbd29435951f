/-
  Layer 21 (turn): the cells of a turned field.
-/
import Derived.Test.YtkifafdbobhlpaaCellsQ
import Derived.Deep.AppendLies
namespace Go.Proofs.Ytkifafdbobhlpaa
open Go.RowKit BG
attribute [local go_sem ↓] Go.wp_at_zero Go.wp_at_succ
set_option linter.unusedVariables false

theorem Own2.less {base base' n : Nat} {w : World} {v : Value} {xs : List Int} (h : Own2 base w v n xs) (hb : base' ≤ base) : Own2 base' w v n xs := by
  obtain ⟨h1, h2⟩ := h
  refine ⟨h1, ?_⟩
  rcases h2 with h2 | ⟨g, cap, cur, hv, hg, r⟩
  · exact .inl h2
  · exact .inr ⟨g, cap, cur, hv, Nat.le_trans hb hg, r⟩
theorem mk_zero (n : Nat) : (mk n fun _ => 0).map (Value.int .i64) = List.replicate n (Value.int .i64 0) := by
  rw [List.eq_replicate_iff]
  refine ⟨by simp [mk], fun b hb => ?_⟩
  obtain ⟨x, hx, rfl⟩ := List.mem_map.1 hb
  obtain ⟨_, _, rfl⟩ := List.mem_map.1 hx
  rfl
def fieldOk (a b : Int) : Bool := decide (1 ≤ a ∧ a ≤ 64 ∧ 1 ≤ b ∧ b ≤ 64)
theorem field_cases {a b : Int} (h : fieldOk a b = false) : a < 1 ∨ (1 ≤ a ∧ 64 < a) ∨ (1 ≤ a ∧ a ≤ 64 ∧ b < 1) ∨ (1 ≤ a ∧ a ≤ 64 ∧ 1 ≤ b ∧ 64 < b) := by
  simp only [fieldOk, decide_eq_false_iff_not] at h; omega
theorem info_i64 : (Try.prog.info? 3).map (fun i => (i.zero, i.size, i.bytes)) = some (some (.int .i64 0), 1, 8) := by kernel_rfl
theorem cells_no (a b k : Int) (hok : fieldOk a b = false) (w : World) : Calls Try.prog 17 #[.int .i64 a, .int .i64 b, .int .i64 k] w (Ret (.tuple #[.slice none 0 0, .int .i64 0, .int .i64 0, .bool false]) w) := by
  rcases field_cases hok with h | h | h | h
  · have gl : decide (a < 1) = true := decide_eq_true (by omega)
    clear hok h
    go_enter Try.func17, Try.ntmps17
    go_wp2_with fail
    exact bodyPost_ret (v := .tuple #[.slice none 0 0, .int .i64 0, .int .i64 0, .bool false]) (by simp [results, Try.results17, go_sem]) rfl ⟨rfl, kept_refl _⟩
  · have g1 : decide (a < 1) = false := decide_eq_false (by omega)
    have gl : decide (64 < a) = true := decide_eq_true (by omega)
    clear hok h
    go_enter Try.func17, Try.ntmps17
    go_wp2_with fail
    exact bodyPost_ret (v := .tuple #[.slice none 0 0, .int .i64 0, .int .i64 0, .bool false]) (by simp [results, Try.results17, go_sem]) rfl ⟨rfl, kept_refl _⟩
  · have g1 : decide (a < 1) = false := decide_eq_false (by omega)
    have g2 : decide (64 < a) = false := decide_eq_false (by omega)
    have gl : decide (b < 1) = true := decide_eq_true (by omega)
    clear hok h
    go_enter Try.func17, Try.ntmps17
    go_wp2_with fail
    exact bodyPost_ret (v := .tuple #[.slice none 0 0, .int .i64 0, .int .i64 0, .bool false]) (by simp [results, Try.results17, go_sem]) rfl ⟨rfl, kept_refl _⟩
  · have g1 : decide (a < 1) = false := decide_eq_false (by omega)
    have g2 : decide (64 < a) = false := decide_eq_false (by omega)
    have g3 : decide (b < 1) = false := decide_eq_false (by omega)
    have gl : decide (64 < b) = true := decide_eq_true (by omega)
    clear hok h
    go_enter Try.func17, Try.ntmps17
    go_wp2_with fail
    exact bodyPost_ret (v := .tuple #[.slice none 0 0, .int .i64 0, .int .i64 0, .bool false]) (by simp [results, Try.results17, go_sem]) rfl ⟨rfl, kept_refl _⟩
theorem rcells_no (a b k : Int) (hok : fieldOk a b = false) (w : World) : Calls Try.prog 18 #[.int .i64 a, .int .i64 b, .int .i64 k] w (Ret (.tuple #[.slice none 0 0, .int .i64 0, .int .i64 0, .bool false]) w) := by
  rcases field_cases hok with h | h | h | h
  · have gl : decide (a < 1) = true := decide_eq_true (by omega)
    clear hok h
    go_enter Try.func18, Try.ntmps18
    go_wp2_with fail
    exact bodyPost_ret (v := .tuple #[.slice none 0 0, .int .i64 0, .int .i64 0, .bool false]) (by simp [results, Try.results18, go_sem]) rfl ⟨rfl, kept_refl _⟩
  · have g1 : decide (a < 1) = false := decide_eq_false (by omega)
    have gl : decide (64 < a) = true := decide_eq_true (by omega)
    clear hok h
    go_enter Try.func18, Try.ntmps18
    go_wp2_with fail
    exact bodyPost_ret (v := .tuple #[.slice none 0 0, .int .i64 0, .int .i64 0, .bool false]) (by simp [results, Try.results18, go_sem]) rfl ⟨rfl, kept_refl _⟩
  · have g1 : decide (a < 1) = false := decide_eq_false (by omega)
    have g2 : decide (64 < a) = false := decide_eq_false (by omega)
    have gl : decide (b < 1) = true := decide_eq_true (by omega)
    clear hok h
    go_enter Try.func18, Try.ntmps18
    go_wp2_with fail
    exact bodyPost_ret (v := .tuple #[.slice none 0 0, .int .i64 0, .int .i64 0, .bool false]) (by simp [results, Try.results18, go_sem]) rfl ⟨rfl, kept_refl _⟩
  · have g1 : decide (a < 1) = false := decide_eq_false (by omega)
    have g2 : decide (64 < a) = false := decide_eq_false (by omega)
    have g3 : decide (b < 1) = false := decide_eq_false (by omega)
    have gl : decide (64 < b) = true := decide_eq_true (by omega)
    clear hok h
    go_enter Try.func18, Try.ntmps18
    go_wp2_with fail
    exact bodyPost_ret (v := .tuple #[.slice none 0 0, .int .i64 0, .int .i64 0, .bool false]) (by simp [results, Try.results18, go_sem]) rfl ⟨rfl, kept_refl _⟩
theorem cells_yes (m h : Nat) (k : Int) (k1 : -9223372036854775808 ≤ k) (k2 : k ≤ 9223372036854775807) (hw : 0 < m) (hh : 0 < h) (hw2 : m ≤ 64) (hh2 : h ≤ 64) (w : World) : Calls Try.prog 17 #[.int .i64 m, .int .i64 h, .int .i64 k] w fun e w' => ∃ v, e = .returned (.tuple #[v, .int .i64 (wideN m h k : Nat), .int .i64 (highN m h k : Nat), .bool true]) ∧ Own .i64 3 w.heap.size w' v (cellsv m h k) ∧ Kept w w' := by
  have hN : m * h ≤ 4096 := Nat.le_trans (Nat.mul_le_mul hw2 hh2) (by decide)
  have hn0 : 0 < m * h := Nat.mul_pos hw hh
  obtain ⟨i0, hif, hz0, hz1, hz2⟩ := info_parts info_p2
  obtain ⟨i1, hif1, hy0, hy1, hy2⟩ := info_parts info_i64
  have g1 : decide ((m : Int) < 1) = false := decide_eq_false (by omega)
  have g2 : decide (64 < (m : Int)) = false := decide_eq_false (by omega)
  have g3 : decide ((h : Int) < 1) = false := decide_eq_false (by omega)
  have g4 : decide (64 < (h : Int)) = false := decide_eq_false (by omega)
  have hmul : ((m : Int) * (h : Int)) = ((m * h : Nat) : Int) := by rw [Int.natCast_mul]
  generalize hNN : m * h = N at *
  have HN := Lib.hid hNN
  have hz : ¬ (m : Int) = 0 := by omega
  clear hNN
  go_enter Try.func17, Try.ntmps17
  go_wp2_with fail
  clear hmul g1 g2 g3 g4
  go_loopw [10, 36] (fun v i wr => ∃ j : Nat, j ≤ N ∧ i = .int .i64 j ∧ Own2 w.heap.size wr v j (gridv m j) ∧ Kept w wr) (fun _ i _ => N - (intOf i).toNat)
  case atStart => exact ⟨0, Nat.zero_le _, rfl, Own2.nil _ _, kept_refl _⟩
  case round =>
    obtain ⟨j, hj, rfl, hown, hk⟩ := hrel
    by_cases hlt : j < N
    · obtain ⟨r, hr⟩ : ∃ r : Int, r = ((j % m : Nat) : Int) := ⟨_, rfl⟩
      obtain ⟨d, hd⟩ : ∃ d : Int, d = ((j / m : Nat) : Int) := ⟨_, rfl⟩
      have e1 : (j : Int).tmod (m : Int) = r := hr.symm
      have e2 : (j : Int).tdiv (m : Int) = d := hd.symm
      have e3 : (j : Int) % (m : Int) = r := by rw [hr, Int.natCast_emod]
      have e4 : (j : Int) / (m : Int) = d := by rw [hd, Int.natCast_ediv]
      have hz' : ¬ m = 0 := by omega
      have b1 : 0 ≤ d := by rw [hd]; exact Int.natCast_nonneg _
      have b2 : d ≤ 4096 := by rw [hd]; have := Nat.div_le_self j m; omega
      have hwd : IntKind.i64.wrap d = d := by simp [IntKind.wrap, IntKind.signed, IntKind.bits]; omega
      have HR := Lib.hid hr
      have HD := Lib.hid hd
      clear hr hd
      unfold Own2 at hown
      have hbase := hk.size
      go_wp2_with fail
      go_region_held3 (fun _ => True) (trivial) ((refine step_append_lies _ (by rfl) _ _ _ (by rfl) w.heap.size 35 i0 _ 2 16 Try.underlying26 hif hz0 hz1 hz2 rfl (by omega) _ j _ (by rfl) ((World.ownsRow.alloc hown _).drew) ⟨wr.heap.size, 0, none⟩ 1 1 [.int .i64 r, .int .i64 d] (by rfl) (by rfl) (World.news_of_block (cs := #[.int .i64 r, .int .i64 d]) (t := 35) (fr := (0, 0)) (heap_alloc_new wr _)) (by simp [Value.oneCell']) (by omega) (by unfold maxLen; omega) (by omega) (by simp; omega) (wr.heap.size + 1) (by simp) ?_; intro g cap w1 hown1 hgrow hat hlt'))
      have R : Own2 w.heap.size w1 (.slice (some ⟨g, 0, none⟩) (j + 1) cap) (j + 1) (gridv m (j + 1)) := by
        unfold Own2 gridv
        rw [flat_succ, List.map_append, ← HR.out, ← HD.out]
        exact hown1
      have K := kept_grown (kept_drew (kept_alloc hk _)) ((World.ownsRow.alloc hown _).drew) (Nat.le_refl _) hgrow
      clear hown1 hgrow hown hat hlt' e1 e2 e3 e4
      go_wp2_with fail
      exact ⟨⟨j + 1, by omega, by go_num, R, K⟩, by simp [intOf]; omega⟩
    · obtain rfl : j = N := by omega
      obtain ⟨A, c, rfl, hl, hrd⟩ := hown.rd (by omega)
      have P1 := points_c A c (gridv m j) j hl k k1 k2 (by omega) wr hrd
      have gok : boxOk (gridv m j) j = true := HN.out ▸ grid_ok hw hh hw2 hh2
      rw [gok, if_pos rfl] at P1
      go_wp2_with fail
      refine P1.mono ?_
      rintro e w2 ⟨v, rfl, hown2, hk2⟩
      obtain ⟨g, c2, rfl, hl2, hr2⟩ := Own2.pos hown2 hn0 (by omega)
      have BX := box_c (some ⟨g, 0, none⟩) c2 (ptsv (gridv m j) k j) j hl2 w2 hr2
      have GH : hi (X (ptsv (gridv m j) k j)) j = (wideN m h k : Int) - 1 ∧ hi (Y (ptsv (gridv m j) k j)) j = (highN m h k : Int) - 1 := HN.out ▸ grid_hi k hw hh hw2 hh2
      have gok2 : boxOk (ptsv (gridv m j) k j) j = true := HN.out ▸ grid_ok2 k hw hh hw2 hh2
      unfold Btuple at BX
      rw [gok2] at BX
      simp only [onlyIf, if_true] at BX
      rw [GH.1, GH.2] at BX
      clear GH P1 gok gok2 hrd hl
      generalize lo (X (ptsv (gridv m j) k j)) j = z1 at *
      generalize lo (Y (ptsv (gridv m j) k j)) j = z2 at *
      have wl := wide_le k hw2 hh2
      generalize hW : wideN m h k = W at *
      generalize hH : highN m h k = H at *
      have HW := Lib.hid hW
      have HH := Lib.hid hH
      clear hW hH
      have hmul : ((m : Int) * (h : Int)) = (j : Int) := by have := HN.out; rw [← this, Int.natCast_mul]
      go_wp2_with fail
      refine BX.mono ?_
      rintro e w3 ⟨rfl, hk3⟩
      replace hown2 : Own2 w.heap.size w3 (.slice (some ⟨g, 0, none⟩) j c2) j (ptsv (gridv m j) k j) := (hown2.kept hk3).less hk.size
      have hg3 := (World.ownsRow.lt hown2 g rfl).2
      have hk' := kept_trans hk (kept_trans hk2 hk3)
      clear BX hk2 hk3 hr2 hown
      go_wp2_with fail
      go_quiet (fail)
      go_wp2_with (refine wpList_make_full _ rfl (.tmp 69) (.tmp 69) 37 rfl w.heap.size 3 i1 (.int .i64 0) 1 Try.underlying37 hif1 hy0 hy1 .i64 .i64 _ _ j rfl rfl (by simp) (by simp) ?b2 ?b3 ?b4 ?_)
      case b2 => rw [hy2]; omega
      case b3 => unfold maxLen; omega
      case b4 => have := hk'.size; simp; omega
      intro w4 hown4 hgrow
      have K4 : Kept w w4 := (kept_drewN (kept_alloc hk' _) nq).grown hgrow (kept_drewN (kept_alloc hk' _) nq).size (fun k h => by cases h)
      replace hown2 : Own2 w.heap.size w4 (.slice (some ⟨g, 0, none⟩) j c2) j (ptsv (gridv m j) k j) := World.ownsRow.kept (hown2.kept (kept_drewN (kept_alloc (kept_refl w3) _) nq)) hgrow (.inr (by simp [Value.ownBlock]))
      rw [toList_madeCells_one] at hown4
      have hown5 : w4.ownsRow w.heap.size 3 1 (.slice (some ⟨w3.heap.size + 1, 0, none⟩) j j) j ((cellsTo m h k 0).map (Value.int .i64)) := by
        rw [cellsTo_zero, HN.out]
        rw [mk_zero]; exact hown4
      have hgg : g ≠ w3.heap.size + 1 := by omega
      clear hg3
      clear hown4 hgrow hk'
      generalize w3.heap.size + 1 = g2 at *
      go_wp2_with fail
      go_loopw [73] (fun i wr => ∃ q : Nat, q ≤ j ∧ i = .int .i64 q ∧ wr.ownsRow w.heap.size 3 1 (.slice (some ⟨g2, 0, none⟩) j j) j ((cellsTo m h k q).map (Value.int .i64)) ∧ Own2 w.heap.size wr (.slice (some ⟨g, 0, none⟩) j c2) j (ptsv (gridv m j) k j) ∧ Kept w wr) (fun i _ => j - (intOf i).toNat)
      case atStart => exact ⟨0, Nat.zero_le _, rfl, hown5, hown2, K4⟩
      case round =>
        clear hown5 hown2 K4 hk
        obtain ⟨q, hq, rfl, hown, hown2, hk⟩ := hrel
        by_cases hlt : q < j
        · have hN' : q < m * h := by have := HN.out; omega
          have GP : X (ptsv (gridv m j) k j) q = (colOf m h k q : Nat) ∧ Y (ptsv (gridv m j) k j) q = (rowOf m h k q : Nat) := by
            have := grid_pts k hw hh hw2 hh2 hN'
            rwa [HN.out] at this
          have hl3 : (ptsv (gridv m j) k j).length = 2 * j := by have := hown2.1; rw [List.length_map] at this; omega
          obtain ⟨c0, c1⟩ := hown2.cell hl3 hlt
          rw [GP.1] at c0
          rw [GP.2] at c1
          have hpos := posOf_lt k hw hh hN'
          rw [HN.out] at hpos
          have hset := cellsTo_set k hw hh hN'
          have hpe : ((rowOf m h k q : Nat) : Int) * (W : Int) + ((colOf m h k q : Nat) : Int) = ((posOf m h k q : Nat) : Int) := by
            unfold posOf; rw [HW.out, Int.natCast_add, Int.natCast_mul]
          have hb2 := posOf_lt k hw hh hN'
          have hownA := World.ownsRow.alloc hown (.cells #[.int .i64 ((colOf m h k q : Nat) : Int), .int .i64 ((rowOf m h k q : Nat) : Int)] 35)
          have hown2A : Own2 _ _ _ _ _ := World.ownsRow.alloc hown2 (.cells #[.int .i64 ((colOf m h k q : Nat) : Int), .int .i64 ((rowOf m h k q : Nat) : Int)] 35)
          have hkA := kept_alloc hk (.cells #[.int .i64 ((colOf m h k q : Nat) : Int), .int .i64 ((rowOf m h k q : Nat) : Int)] 35)
          have d0 := World.ownsRow.cellAt hownA (posOf m h k q) (by omega)
          have hlen : (cellsTo m h k q).length = j := by unfold cellsTo; rw [mk_length, HN.out]
          rw [List.getElem?_map, List.getElem?_eq_getElem (by omega), Option.map_some] at d0
          have f0 := World.ownsRow.frozenAt hownA (posOf m h k q)
          have S := World.ownsRow.stored hownA (posOf m h k q) (.int .i64 (q : Int))
          rw [← List.map_set, hset] at S
          generalize (cellsTo m h k q)[posOf m h k q]'(by omega) = old at *
          generalize posOf m h k q = pos at *
          generalize hro : rowOf m h k q = ro at *
          generalize hco : colOf m h k q = co at *
          have hpb := (pos_bd k hw hh hN')
          rw [HW.out, HH.out, hro, hco] at hpb
          have ea : (⟨g2, 0, none⟩ : Addr).add pos = ⟨g2, pos, none⟩ := by unfold Addr.add; split <;> simp_all
          have eb : (⟨g, 0, none⟩ : Addr).add (q * 2) = ⟨g, q * 2, none⟩ := by unfold Addr.add; split <;> simp_all
          clear hro hco GP hl3 hN' hset hb2 hlen
          have hrw : ((ro : Nat) : Int) * (W : Int) ≤ 4096 := by
            have : 0 ≤ ((co : Nat) : Int) := Int.natCast_nonneg _
            omega
          have hrn : 0 ≤ ((ro : Nat) : Int) * (W : Int) := Int.mul_nonneg (Int.natCast_nonneg _) (Int.natCast_nonneg _)
          go_wp2_with fail
          exact ⟨⟨q + 1, by omega, by go_num, S.1, World.ownsRow.kept hown2A S.2 (.inr (by simp [Value.ownBlock, hgg])), kept_grown hkA hownA (Nat.le_refl _) S.2⟩, by simp [intOf]; omega⟩
        · obtain rfl : q = j := by omega
          have e := cellsTo_all k hw hh
          rw [HN.out] at e
          rw [e] at hown
          clear e
          go_wp2_with fail
          have hOwn : Own .i64 3 w.heap.size wr (.slice (some ⟨g2, 0, none⟩) q q) (cellsv m h k) := by
            have hl : (cellsv m h k).length = q := by unfold cellsv; rw [mk_length, HN.out]
            unfold Own
            rw [hl]
            exact hown
          exact bodyPost_ret (v := .tuple #[.slice (some ⟨g2, 0, none⟩) q q, .int .i64 (W : Int), .int .i64 (H : Int), .bool true]) (by simp [results, Try.results17, go_sem]) rfl ⟨_, by rw [HW.out, HH.out], hOwn, hk⟩
end Go.Proofs.Ytkifafdbobhlpaa
